/- Functions of the program: what they return, and that they do. -/
import Derived.Test.YtcalbijmeifbhaaGreatGroupC
import Derived.Test.YtcalbijmeifbhaaGreatGroupA
import Derived.Test.YtcalbijmeifbhaaGreatHandH
import Derived.Test.YtcalbijmeifbhaaGreatProg
import Derived.KernelRfl
import Derived.Test.YtcalbijmeifbhaaGreatEvalC
import Derived.Laws.BitsAllLaws
set_option linter.unusedVariables false
set_option linter.unusedSimpArgs false
namespace Go.AL
set_option linter.unusedVariables false
def regular_like__i.C : Ctr := TK.C
def slices_AppendSeq__i.C : Ctr := TQ.C
def slices_Collect__i.C : Ctr := TQ.CC
def slices_Grow__i.C : Ctr := TW.C 8
def slices_Grow_113__i.C : Ctr := TW.C 1
def slices_Clone__i.C (P : Program) : Ctr := inlCF P (lookC ((99998, deadC) :: [])) [] 78
def slices_Clone_81__i.C (P : Program) : Ctr := inlCF P (lookC ((99998, deadC) :: [])) [] 81
def regular_behind__i.C (P : Program) : Ctr := inlCF P (lookC [(78, (slices_Clone__i.C P))]) [6] 38
def regular_plus__i.C (P : Program) : Ctr := inlCF P (lookC [(81, (slices_Clone_81__i.C P))]) [4] 40
def regular_plus__p1.A : ElT [.lst (.int .i64), .int .i64] := ([1], 1)
def regular_plus__p1.R : ElT [.lst (.int .i64)] := [2]
def regular_plus__p2.A : ElT [.lst (.int .i64), .int .i64] := ([1], 3)
def regular_plus__p2.R : ElT [.lst (.int .i64)] := [4]
def regular_plus__p.sp (a : ElT [.lst (.int .i64), .int .i64]) : ElT [.lst (.int .i64)] := a.1.map (· + a.2)
def regular_plus__p.C : Ctr := pureCtr [.lst (.int .i64), .int .i64] [.lst (.int .i64)] (some fun b => b = regular_plus__p1.A ∨ b = regular_plus__p2.A) regular_plus__p.sp
def slices_Concat__i.C (P : Program) : Ctr := inlCF P (lookC [(82, slices_Grow__i.C)]) [] 41
def slices_Concat_79__i.C (P : Program) : Ctr := inlCF P (lookC [(113, slices_Grow_113__i.C)]) [] 79
def cmp_Less.C : Ctr := pureCtr [.int .i64, .int .i64] [.bool] none (fun (a_ : Int × Int) => match a_ with | (x, y) => (decide (x < y)))
def cmp_Less__d.C : Ctr := pureD [.int .i64, .int .i64] [.bool] none (fun (a_ : Int × Int) => match a_ with | (x, y) => (decide (x < y)))
def term_Value__d.C : Ctr := pureD [.lst (.nm 0)] [.int .i64] (some (fun (l : (List Tm)) => Sp.okL l)) (fun (l : (List Tm)) => (Sp.wrong l 4))
def regular_Check__d.C : Ctr := pureD [.nm 7] [.int .i64] (some (fun (a : Aut) => Sp.okA a)) (fun (a : Aut) => (Sp.rcheck a))
def regular_Has__d.C : Ctr := pureD [.nm 7, .lst (.nm 0)] [.bool, .int .i64] (some (fun (a_ : Aut × (List Tm)) => match a_ with | (a, v) => Sp.okA a ∧ Sp.okL v)) (fun (a_ : Aut × (List Tm)) => match a_ with | (a, v) => ((if Sp.rcheck a = 0 then (if Sp.wrong v 4 = 0 then (Sp.bhas (Sp.baccL a v) a.start, 0) else (false, Sp.wrong v 4)) else (false, Sp.rcheck a))))
def regular_Automaton_finals__d.C : Ctr := pureD [.nm 7] [.nm 8] (some (fun (a : Aut) => ∀ f ∈ a.final, 0 ≤ f ∧ f < 400)) (fun (a : Aut) => (Sp.bfin a.final ⟨0, 0, 0, 0, 0, 0, 0⟩))
def regular_set_has__d.C : Ctr := pureD [.nm 8, .int .i64] [.bool] (some (fun (a_ : Bts × Int) => match a_ with | (x, n) => 0 ≤ n ∧ n < 400)) (fun (a_ : Bts × Int) => match a_ with | (x, n) => (Sp.bhas x n))
def regular_set_put__d.C : Ctr := memD regular_set_put.d [] (some (fun (c_ : ElT [.int .i64]) (s_ : ElT [.int .u64, .int .u64, .int .u64, .int .u64, .int .u64, .int .u64, .int .u64]) => match c_, s_ with | n, (b0, b1, b2, b3, b4, b5, b6) => 0 ≤ n ∧ n < 400)) (fun (c_ : ElT [.int .i64]) (s_ : ElT [.int .u64, .int .u64, .int .u64, .int .u64, .int .u64, .int .u64, .int .u64]) => match c_, s_ with | n, (b0, b1, b2, b3, b4, b5, b6) => (((), ((Sp.bput ⟨b0, b1, b2, b3, b4, b5, b6⟩ n).b0, (Sp.bput ⟨b0, b1, b2, b3, b4, b5, b6⟩ n).b1, (Sp.bput ⟨b0, b1, b2, b3, b4, b5, b6⟩ n).b2, (Sp.bput ⟨b0, b1, b2, b3, b4, b5, b6⟩ n).b3, (Sp.bput ⟨b0, b1, b2, b3, b4, b5, b6⟩ n).b4, (Sp.bput ⟨b0, b1, b2, b3, b4, b5, b6⟩ n).b5, (Sp.bput ⟨b0, b1, b2, b3, b4, b5, b6⟩ n).b6))))
def term_Copy__d.C : Ctr := pureD [.lst (.nm 0)] [.lst (.nm 0)] (some fun l => Sp.okL l) (fun l => l)
def term_Compare__d.C : Ctr := pureD [.lst (.nm 0), .lst (.nm 0)] [.int .i64] none (fun (a_ : (List Tm) × (List Tm)) => match a_ with | (a, b) => (Sp.cmpL a b))
def regular_compare__d.C : Ctr := pureD [.nm 0, .nm 0] [.int .i64] none (fun (a_ : Tm × Tm) => match a_ with | (a, b) => (Sp.cmpL [a] [b]))
def math_bits_Len64__i.C (P : Program) : Ctr := inlCF P (lookC []) [] 112
def math_bits_Len__i.C (P : Program) : Ctr := inlCF P (lookC [(112, (math_bits_Len64__i.C P))]) [] 77
def slices_insertionSortOrdered__i.C (P : Program) : Ctr := inlCF P (lookC [(108, cmp_Less__d.C)]) [] 102
def slices_pdqsortOrdered__i.C (P : Program) : Ctr := inlCF P (lookC [(102, (slices_insertionSortOrdered__i.C P))]) [] 76
def slices_Sort__i.C (P : Program) : Ctr := inlCF P (lookC [(76, (slices_pdqsortOrdered__i.C P)), (77, (math_bits_Len__i.C P))]) [] 36
def slices_Compact__i.C (P : Program) : Ctr := inlCF P (lookC []) [] 80
def regular_ascending__i.C (P : Program) : Ctr := inlCF P (lookC [(36, (slices_Sort__i.C P)), (79, (slices_Concat_79__i.C P)), (80, (slices_Compact__i.C P))]) [] 39
def regular_ascending__p.A : ElT [.lst (.lst (.int .i64))] := [[0], [2], [4]]
def regular_ascending__p.R : ElT [.lst (.int .i64)] := [0, 2, 4]
def regular_ascending__p.C : Ctr := pureCtr [.lst (.lst (.int .i64))] [.lst (.int .i64)] (some fun b => b = regular_ascending__p.A) fun _ => regular_ascending__p.R
def regular_Star_1__i.C (P : Program) : Ctr := inlCF P (lookC [(38, (regular_behind__i.C P)), (39, regular_ascending__p.C), (40, regular_plus__p.C), (41, (slices_Concat__i.C P)), (42, slices_Collect__i.C), (43, regular_like__i.C), (44, slices_AppendSeq__i.C)]) [] 37
def regular_Automaton_add__i.C (P : Program) : Ctr := inlCF P (lookC []) [] 35
def regular_Exactly_1__i.C (P : Program) : Ctr := inlCF P (lookC [(35, (regular_Automaton_add__i.C P)), (36, (slices_Sort__i.C P))]) [] 34
end Go.AL
namespace Sp
open Go.AL
def good (e : Edg) (s : Bts) : Bool := bhas s e.dst && (decide (e.kind ≠ 2) || decide ((e.exc.length : Int) < 256)) && (decide (e.kind ≠ 5) || bhas s e.inner)
end Sp
namespace Go.AL
def regular_Edge_good.C : Ctr := pureCtr [.nm 6, .nm 8] [.bool] (some (fun (a_ : Edg × Bts) => match a_ with | (e, x) => (0 ≤ e.dst ∧ e.dst < 400) ∧ (e.kind = 5 → 0 ≤ e.inner ∧ e.inner < 400))) (fun (a_ : Edg × Bts) => match a_ with | (e, x) => (Sp.good e x))
def regular_Edge_good__d.C : Ctr := pureD [.nm 6, .nm 8] [.bool] (some (fun (a_ : Edg × Bts) => match a_ with | (e, x) => (0 ≤ e.dst ∧ e.dst < 400) ∧ (e.kind = 5 → 0 ≤ e.inner ∧ e.inner < 400))) (fun (a_ : Edg × Bts) => match a_ with | (e, x) => (Sp.good e x))
def regular_Automaton_trim_1__i.C (P : Program) : Ctr := inlCF P (lookC [(68, regular_Edge_good__d.C), (69, regular_set_put__d.C)]) [] 67
def regular_Automaton_trim_2__i.C (P : Program) : Ctr := inlCF P (lookC [(21, regular_set_has__d.C), (68, regular_Edge_good__d.C), (69, regular_set_put__d.C)]) [] 70
def term_Equal__i.C (P : Program) : Ctr := inlCF P (lookC [(90, term_Compare__d.C)]) [] 101
def regular_same__i.C (P : Program) : Ctr := inlCF P (lookC [(58, regular_compare__d.C), (101, (term_Equal__i.C P))]) [] 73
def regular_Automaton_trim_3__i.C (P : Program) : Ctr := inlCF P (lookC [(73, (regular_same__i.C P))]) [] 72
def slices_IndexFunc__t3.C (P : Program) : Ctr := inlCF P (lookC [(72, (regular_Automaton_trim_3__i.C P))]) [] 54
def slices_ContainsFunc__t3.C (P : Program) : Ctr := inlCF P (lookC [(54, (slices_IndexFunc__t3.C P))]) [] 24
def regular_grow__i.C (P : Program) : Ctr := inlCF P (lookC [(67, (regular_Automaton_trim_1__i.C P)), (70, (regular_Automaton_trim_2__i.C P))]) [] 66
def regular_Automaton_trim__i.C (P : Program) : Ctr := inlCF P (lookC [(21, regular_set_has__d.C), (24, (slices_ContainsFunc__t3.C P)), (45, regular_Automaton_finals__d.C), (66, (regular_grow__i.C P)), (68, regular_Edge_good__d.C), (69, regular_set_put__d.C), (71, term_Copy__d.C)]) [] 32
def regular_guarded__i.R0 : List AI := [⟨(some 2), none, .new [(.int .i64 0), (.int .i64 0), (.lst 1 [] .clip), (.lst 8 [] .clip)]⟩, ⟨(some 3), none, .new [(.int .i64 0)]⟩]
def regular_guarded__i.R2 : List AI := [⟨(some 5), none, .mv (.t 0)⟩, ⟨(some 6), none, .call (.t 5) []⟩, ⟨none, none, .st 4 (.t 2) (.t 6)⟩]
def regular_guarded__i.R3 : List AI := [⟨(some 7), none, .fa 0 1 (.t 2)⟩, ⟨(some 8), none, .ld false 1 (.t 7)⟩, ⟨(some 9), none, .bin .gtr (.t 8) (.c (.int .i64 400))⟩, ⟨(some 10), none, .mv (.t 9)⟩, ⟨(some 11), (some (10, false)), .fa 3 1 (.t 2)⟩, ⟨(some 12), (some (10, false)), .ld false 1 (.t 11)⟩, ⟨(some 13), (some (10, false)), .len (.t 12)⟩, ⟨(some 14), (some (10, false)), .bin .gtr (.t 13) (.c (.int .i64 4000))⟩, ⟨(some 15), none, .pick (.t 10) (.c (.bool true)) (.t 14)⟩]
def regular_guarded__i.R5 : List AI := [⟨(some 17), none, .ld true 4 (.t 2)⟩, ⟨(some 18), none, .call (.c (.fn (.func 32) [] [])) [(.t 17)]⟩, ⟨none, none, .st 4 (.t 2) (.t 18)⟩, ⟨none, none, .st 1 (.t 3) (.c (.int .i64 0))⟩]
def regular_guarded__i.G (P : Program) : Ctx := lookC [(34, (regular_Exactly_1__i.C P)), (37, (regular_Star_1__i.C P)), (32, (regular_Automaton_trim__i.C P))]
def regular_guarded__i.C (P : Program) : Ctr := TD.C (regular_guarded__i.G P) 19 [.cell 2 true 4, .cell 3 false 1] regular_guarded__i.R0 regular_guarded__i.R2 regular_guarded__i.R3 (.t 15) regular_guarded__i.R5
def regular_Exactly__i.C (P : Program) : Ctr := inlCF P (lookC [(13, term_Value__d.C), (33, (regular_guarded__i.C P))]) [] 18
def regular_Exactly__p.A : ElT [.lst (.nm 0)] := [.mk 2 ⟨#[65]⟩ []]
def regular_Exactly__p.R : ElT [.nm 7, .int .i64] := (⟨2, 0, [1], [⟨0, 1, 1, .mk 2 ⟨#[65]⟩ [], [], 0⟩]⟩, 0)
def regular_Exactly__p.C : Ctr := pureCtr [.lst (.nm 0)] [.nm 7, .int .i64] (some fun b => b = regular_Exactly__p.A) fun _ => regular_Exactly__p.R
def regular_Star__i.C (P : Program) : Ctr := inlCF P (lookC [(11, regular_Check__d.C), (33, (regular_guarded__i.C P))]) [] 19
def regular_Star__p.A : ElT [.nm 7] := ⟨2, 0, [1], [⟨0, 1, 1, .mk 2 ⟨#[65]⟩ [], [], 0⟩]⟩
def regular_Star__p.R : ElT [.nm 7, .int .i64] := (⟨2, 0, [0, 1], [⟨0, 1, 1, .mk 2 ⟨#[65]⟩ [], [], 0⟩, ⟨1, 1, 1, .mk 2 ⟨#[65]⟩ [], [], 0⟩]⟩, 0)
def regular_Star__p.C : Ctr := pureCtr [.nm 7] [.nm 7, .int .i64] (some fun b => b = regular_Star__p.A) fun _ => regular_Star__p.R
def regular_Exactly__d.C : Ctr := pureD [.lst (.nm 0)] [.nm 7, .int .i64] (some fun b => b = regular_Exactly__p.A) fun _ => regular_Exactly__p.R
def regular_Star__d.C : Ctr := pureD [.nm 7] [.nm 7, .int .i64] (some fun b => b = regular_Star__p.A) fun _ => regular_Star__p.R
def l23_awake__i.C (P : Program) : Ctr := inlCF P (lookC [(8, regular_Has__d.C), (18, regular_Exactly__d.C), (19, regular_Star__d.C)]) [] 7
def l23_awake.A : ElT [] := ()
def l23_awake.R : ElT [.bool] := true
def l23_awake.C : Ctr := pureCtr [] [.bool] (some fun b => b = l23_awake.A) fun _ => l23_awake.R
end Go.AL
namespace Go.AL
set_option linter.unusedVariables false
set_option maxRecDepth 10000
def cmp_Less.t (x : Int) (y : Int) : Prop :=
 (∀ b : Bool, ((false=b)→((decide (x < y))=((b && (!false)) || (decide (x < y))))))
def regular_Edge_good.t (e : Edg) (x : Bts) : Prop :=
 (((0≤(Edg.dst e))∧((Edg.dst e) < 400))∧(∀ b : Bool, (((Sp.bhas (Bts.mk (Bts.b0 x) (Bts.b1 x) (Bts.b2 x) (Bts.b3 x) (Bts.b4 x) (Bts.b5 x) (Bts.b6 x)) (Edg.dst e))=b)→(((((!(decide ((Edg.kind e)=5)))=false)∧((b && ((!(decide ((Edg.kind e)=2))) || (decide ((↑(List.length (Edg.exc e)) : Int) < 256))))=true))→((0≤(Edg.inner e))∧((Edg.inner e) < 400)))∧((Sp.good e x)=((b && ((!(decide ((Edg.kind e)=2))) || (decide ((↑(List.length (Edg.exc e)) : Int) < 256)))) && ((!(decide ((Edg.kind e)=5))) || (Sp.bhas (Bts.mk (Bts.b0 x) (Bts.b1 x) (Bts.b2 x) (Bts.b3 x) (Bts.b4 x) (Bts.b5 x) (Bts.b6 x)) (Edg.inner e)))))))))
def regular_plus__p1.t : Prop :=
 ((((1 :: ([] : (List Int))) ≠ ([] : (List Int)))∧((List.length (1 :: ([] : (List Int))))≤8589934592))∧((((0 : Int)≤0)∧(0 < (↑(List.length (1 :: ([] : (List Int)))) : Int)))∧((inR .i64 ((1 : Int) + 1))∧((((0 : Int)≤0)∧(0 < (↑(List.length (1 :: ([] : (List Int)))) : Int)))∧((inR .i64 ((0 : Int) + 1))∧((Option.some (2 :: ([] : (List Int))))=(Option.some (2 :: ([] : (List Int))))))))))
theorem regular_plus__p1.w : ((regular_plus__i.C Go.Proofs.Tryz.prog)).run (toVs [.lst (.int .i64), .int .i64] regular_plus__p1.A) st00 (fun v _ => asTs [.lst (.int .i64)] (unT [.lst (.int .i64)] v) = some regular_plus__p1.R) = regular_plus__p1.t := by kernel_rfl
def regular_plus__p2.t : Prop :=
 ((((1 :: ([] : (List Int))) ≠ ([] : (List Int)))∧((List.length (1 :: ([] : (List Int))))≤8589934592))∧((((0 : Int)≤0)∧(0 < (↑(List.length (1 :: ([] : (List Int)))) : Int)))∧((inR .i64 ((1 : Int) + 3))∧((((0 : Int)≤0)∧(0 < (↑(List.length (1 :: ([] : (List Int)))) : Int)))∧((inR .i64 ((0 : Int) + 1))∧((Option.some (4 :: ([] : (List Int))))=(Option.some (4 :: ([] : (List Int))))))))))
theorem regular_plus__p2.w : ((regular_plus__i.C Go.Proofs.Tryz.prog)).run (toVs [.lst (.int .i64), .int .i64] regular_plus__p2.A) st00 (fun v _ => asTs [.lst (.int .i64)] (unT [.lst (.int .i64)] v) = some regular_plus__p2.R) = regular_plus__p2.t := by kernel_rfl
def regular_ascending__p.t : Prop :=
 (((List.length ((0 :: ([] : (List Int))) :: ((2 :: ([] : (List Int))) :: ((4 :: ([] : (List Int))) :: ([] : (List (List Int))))))) < 9223372036854775808)→((((0 : Int)≤0)∧(0 < (↑(List.length ((0 :: ([] : (List Int))) :: ((2 :: ([] : (List Int))) :: ((4 :: ([] : (List Int))) :: ([] : (List (List Int))))))) : Int)))∧(((List.length (0 :: ([] : (List Int)))) < 9223372036854775808)→((inR .i64 ((0 : Int) + 1))∧((inR .i64 ((0 : Int) + 1))∧((((0 : Int)≤1)∧(1 < (↑(List.length ((0 :: ([] : (List Int))) :: ((2 :: ([] : (List Int))) :: ((4 :: ([] : (List Int))) :: ([] : (List (List Int))))))) : Int)))∧(((List.length (2 :: ([] : (List Int)))) < 9223372036854775808)→((inR .i64 ((1 : Int) + 1))∧((inR .i64 ((1 : Int) + 1))∧((((0 : Int)≤2)∧(2 < (↑(List.length ((0 :: ([] : (List Int))) :: ((2 :: ([] : (List Int))) :: ((4 :: ([] : (List Int))) :: ([] : (List (List Int))))))) : Int)))∧(((List.length (4 :: ([] : (List Int)))) < 9223372036854775808)→((inR .i64 ((2 : Int) + 1))∧((inR .i64 ((2 : Int) + 1))∧((((0 : Int)≤3)∧((3 : Int)≤8589934592))∧(((List.length ((0 :: ([] : (List Int))) :: ((2 :: ([] : (List Int))) :: ((4 :: ([] : (List Int))) :: ([] : (List (List Int))))))) < 9223372036854775808)→((((0 : Int)≤0)∧(0 < (↑(List.length ((0 :: ([] : (List Int))) :: ((2 :: ([] : (List Int))) :: ((4 :: ([] : (List Int))) :: ([] : (List (List Int))))))) : Int)))∧((((List.length ([] : (List Int))) + (List.length (0 :: ([] : (List Int)))))≤8589934592)∧((inR .i64 ((0 : Int) + 1))∧((((0 : Int)≤1)∧(1 < (↑(List.length ((0 :: ([] : (List Int))) :: ((2 :: ([] : (List Int))) :: ((4 :: ([] : (List Int))) :: ([] : (List (List Int))))))) : Int)))∧((((List.length (0 :: ([] : (List Int)))) + (List.length (2 :: ([] : (List Int)))))≤8589934592)∧((inR .i64 ((1 : Int) + 1))∧((((0 : Int)≤2)∧(2 < (↑(List.length ((0 :: ([] : (List Int))) :: ((2 :: ([] : (List Int))) :: ((4 :: ([] : (List Int))) :: ([] : (List (List Int))))))) : Int)))∧((((List.length (0 :: (2 :: ([] : (List Int))))) + (List.length (4 :: ([] : (List Int)))))≤8589934592)∧((inR .i64 ((2 : Int) + 1))∧(((List.length (0 :: (2 :: (4 :: ([] : (List Int)))))) < 9223372036854775808)→((inR .u64 3)∧((inR .u8 3)∧((((0 : Int)≤3)∧(3 < (↑(ByteArray.size (⟨#[0, 1, 2, 2, 3, 3, 3, 3, 4, 4, 4, 4, 4, 4, 4, 4, 5, 5, 5, 5, 5, 5, 5, 5, 5, 5, 5, 5, 5, 5, 5, 5, 6, 6, 6, 6, 6, 6, 6, 6, 6, 6, 6, 6, 6, 6, 6, 6, 6, 6, 6, 6, 6, 6, 6, 6, 6, 6, 6, 6, 6, 6, 6, 6, 7, 7, 7, 7, 7, 7, 7, 7, 7, 7, 7, 7, 7, 7, 7, 7, 7, 7, 7, 7, 7, 7, 7, 7, 7, 7, 7, 7, 7, 7, 7, 7, 7, 7, 7, 7, 7, 7, 7, 7, 7, 7, 7, 7, 7, 7, 7, 7, 7, 7, 7, 7, 7, 7, 7, 7, 7, 7, 7, 7, 7, 7, 7, 7, 8, 8, 8, 8, 8, 8, 8, 8, 8, 8, 8, 8, 8, 8, 8, 8, 8, 8, 8, 8, 8, 8, 8, 8, 8, 8, 8, 8, 8, 8, 8, 8, 8, 8, 8, 8, 8, 8, 8, 8, 8, 8, 8, 8, 8, 8, 8, 8, 8, 8, 8, 8, 8, 8, 8, 8, 8, 8, 8, 8, 8, 8, 8, 8, 8, 8, 8, 8, 8, 8, 8, 8, 8, 8, 8, 8, 8, 8, 8, 8, 8, 8, 8, 8, 8, 8, 8, 8, 8, 8, 8, 8, 8, 8, 8, 8, 8, 8, 8, 8, 8, 8, 8, 8, 8, 8, 8, 8, 8, 8, 8, 8, 8, 8, 8, 8, 8, 8, 8, 8, 8, 8, 8, 8, 8, 8, 8, 8]⟩ : ByteArray)) : Int)))∧((inR .i64 2)∧((inR .i64 ((0 : Int) + 2))∧((inR .i64 ((3 : Int) - 0))∧((inR .i64 ((0 : Int) + 1))∧(((true=true)→(((0 : Int)≤1)∧(1 < (↑(List.length (0 :: (2 :: (4 :: ([] : (List Int)))))) : Int))))∧(((true=true)→(inR .i64 ((1 : Int) - 1)))∧(((true=true)→(((0 : Int)≤0)∧(0 < (↑(List.length (0 :: (2 :: (4 :: ([] : (List Int)))))) : Int))))∧((inR .i64 ((1 : Int) + 1))∧(((true=true)→(((0 : Int)≤2)∧(2 < (↑(List.length (0 :: (2 :: (4 :: ([] : (List Int)))))) : Int))))∧(((true=true)→(inR .i64 ((2 : Int) - 1)))∧(((true=true)→(((0 : Int)≤1)∧(1 < (↑(List.length (0 :: (2 :: (4 :: ([] : (List Int)))))) : Int))))∧((inR .i64 ((2 : Int) + 1))∧(((List.length (0 :: (2 :: (4 :: ([] : (List Int)))))) < 9223372036854775808)→(((List.length (0 :: (2 :: (4 :: ([] : (List Int)))))) < 9223372036854775808)→((((0 : Int)≤1)∧(1 < (↑(List.length (0 :: (2 :: (4 :: ([] : (List Int)))))) : Int)))∧((inR .i64 ((1 : Int) - 1))∧((((0 : Int)≤0)∧(0 < (↑(List.length (0 :: (2 :: (4 :: ([] : (List Int)))))) : Int)))∧((inR .i64 ((1 : Int) + 1))∧(((List.length (0 :: (2 :: (4 :: ([] : (List Int)))))) < 9223372036854775808)→((((0 : Int)≤2)∧(2 < (↑(List.length (0 :: (2 :: (4 :: ([] : (List Int)))))) : Int)))∧((inR .i64 ((2 : Int) - 1))∧((((0 : Int)≤1)∧(1 < (↑(List.length (0 :: (2 :: (4 :: ([] : (List Int)))))) : Int)))∧((inR .i64 ((2 : Int) + 1))∧(((List.length (0 :: (2 :: (4 :: ([] : (List Int)))))) < 9223372036854775808)→((Option.some (0 :: (2 :: (4 :: ([] : (List Int))))))=(Option.some (0 :: (2 :: (4 :: ([] : (List Int)))))))))))))))))))))))))))))))))))))))))))))))))))))))))))
theorem regular_ascending__p.w : ((regular_ascending__i.C Go.Proofs.Tryz.prog)).run (toVs [.lst (.lst (.int .i64))] regular_ascending__p.A) st00 (fun v _ => asTs [.lst (.int .i64)] (unT [.lst (.int .i64)] v) = some regular_ascending__p.R) = regular_ascending__p.t := by kernel_rfl
def regular_Exactly__p.t : Prop :=
 ((Sp.okL ((Tm.mk 2 (⟨#[65]⟩ : ByteArray) ([] : (List Tm))) :: ([] : (List Tm))))∧(((List.length ((Tm.mk 2 (⟨#[65]⟩ : ByteArray) ([] : (List Tm))) :: ([] : (List Tm)))) < 9223372036854775808)→((inR .i64 ((1 : Int) + 1))∧((inR .i64 ((0 : Int) + 2))∧(((List.length ((Tm.mk 2 (⟨#[65]⟩ : ByteArray) ([] : (List Tm))) :: ([] : (List Tm)))) < 9223372036854775808)→((inR .i64 ((0 : Int) + 1))∧(((List.length ((Tm.mk 2 (⟨#[65]⟩ : ByteArray) ([] : (List Tm))) :: ([] : (List Tm)))) < 9223372036854775808)→((((0 : Int)≤0)∧(0 < (↑(List.length ((Tm.mk 2 (⟨#[65]⟩ : ByteArray) ([] : (List Tm))) :: ([] : (List Tm)))) : Int)))∧((inR .i64 ((0 : Int) + 0))∧((inR .i64 ((0 : Int) + 0))∧((inR .i64 ((0 : Int) + 1))∧((inR .i64 ((0 : Int) + 1))∧((inR .u64 1)∧((inR .u8 1)∧((((0 : Int)≤1)∧(1 < (↑(ByteArray.size (⟨#[0, 1, 2, 2, 3, 3, 3, 3, 4, 4, 4, 4, 4, 4, 4, 4, 5, 5, 5, 5, 5, 5, 5, 5, 5, 5, 5, 5, 5, 5, 5, 5, 6, 6, 6, 6, 6, 6, 6, 6, 6, 6, 6, 6, 6, 6, 6, 6, 6, 6, 6, 6, 6, 6, 6, 6, 6, 6, 6, 6, 6, 6, 6, 6, 7, 7, 7, 7, 7, 7, 7, 7, 7, 7, 7, 7, 7, 7, 7, 7, 7, 7, 7, 7, 7, 7, 7, 7, 7, 7, 7, 7, 7, 7, 7, 7, 7, 7, 7, 7, 7, 7, 7, 7, 7, 7, 7, 7, 7, 7, 7, 7, 7, 7, 7, 7, 7, 7, 7, 7, 7, 7, 7, 7, 7, 7, 7, 7, 8, 8, 8, 8, 8, 8, 8, 8, 8, 8, 8, 8, 8, 8, 8, 8, 8, 8, 8, 8, 8, 8, 8, 8, 8, 8, 8, 8, 8, 8, 8, 8, 8, 8, 8, 8, 8, 8, 8, 8, 8, 8, 8, 8, 8, 8, 8, 8, 8, 8, 8, 8, 8, 8, 8, 8, 8, 8, 8, 8, 8, 8, 8, 8, 8, 8, 8, 8, 8, 8, 8, 8, 8, 8, 8, 8, 8, 8, 8, 8, 8, 8, 8, 8, 8, 8, 8, 8, 8, 8, 8, 8, 8, 8, 8, 8, 8, 8, 8, 8, 8, 8, 8, 8, 8, 8, 8, 8, 8, 8, 8, 8, 8, 8, 8, 8, 8, 8, 8, 8, 8, 8, 8, 8, 8, 8, 8, 8]⟩ : ByteArray)) : Int)))∧((inR .i64 1)∧((inR .i64 ((0 : Int) + 1))∧((inR .i64 ((1 : Int) - 0))∧((inR .i64 ((0 : Int) + 1))∧((∀ i : Int, ((Membership.mem (1 :: ([] : (List Int))) i)→((0≤i)∧(i < 400))))∧((((0 : Int)≤0)∧(0 < (↑(List.length ((Edg.mk 0 1 1 (Tm.mk 2 (⟨#[65]⟩ : ByteArray) ([] : (List Tm))) ([] : (List Tm)) 0) :: ([] : (List Edg)))) : Int)))∧(((((0 : Int)≤1)∧((1 : Int) < 400))∧(((1 : Int)=5)→(((0 : Int)≤0)∧((0 : Int) < 400))))∧((((0 : Int)≤0)∧((0 : Int) < 400))∧((inR .i64 ((0 : Int) + 1))∧((((0 : Int)≤0)∧(0 < (↑(List.length ((Edg.mk 0 1 1 (Tm.mk 2 (⟨#[65]⟩ : ByteArray) ([] : (List Tm))) ([] : (List Tm)) 0) :: ([] : (List Edg)))) : Int)))∧(((((0 : Int)≤1)∧((1 : Int) < 400))∧(((1 : Int)=5)→(((0 : Int)≤0)∧((0 : Int) < 400))))∧((((0 : Int)≤0)∧((0 : Int) < 400))∧((inR .i64 ((0 : Int) + 1))∧((((0 : Int)≤0)∧((0 : Int) < 400))∧((((0 : Int)≤0)∧((0 : Int) < 400))∧((((0 : Int)≤0)∧(0 < (↑(List.length ((Edg.mk 0 1 1 (Tm.mk 2 (⟨#[65]⟩ : ByteArray) ([] : (List Tm))) ([] : (List Tm)) 0) :: ([] : (List Edg)))) : Int)))∧((((0 : Int)≤0)∧((0 : Int) < 400))∧(((true=true)→((((0 : Int)≤1)∧((1 : Int) < 400))∧(((1 : Int)=5)→(((0 : Int)≤0)∧((0 : Int) < 400)))))∧((((0 : Int)≤1)∧((1 : Int) < 400))∧((inR .i64 ((0 : Int) + 1))∧((((0 : Int)≤0)∧(0 < (↑(List.length ((Edg.mk 0 1 1 (Tm.mk 2 (⟨#[65]⟩ : ByteArray) ([] : (List Tm))) ([] : (List Tm)) 0) :: ([] : (List Edg)))) : Int)))∧((((0 : Int)≤0)∧((0 : Int) < 400))∧(((true=true)→((((0 : Int)≤1)∧((1 : Int) < 400))∧(((1 : Int)=5)→(((0 : Int)≤0)∧((0 : Int) < 400)))))∧((((0 : Int)≤1)∧((1 : Int) < 400))∧((inR .i64 ((0 : Int) + 1))∧((((0 : Int)≤2)∧(((2 : Int)≤2)∧((2 : Int)≤8589934592)))∧((((0 : Int)≤0)∧((0 : Int) < 400))∧(((true=true)→(((0 : Int)≤0)∧((0 : Int) < 400)))∧((((0 : Int)≤0)∧(0 < (↑(List.length (0 :: (0 :: ([] : (List Int))))) : Int)))∧((inR .i64 ((0 : Int) + 1))∧((inR .i64 ((0 : Int) + 1))∧((((0 : Int)≤1)∧((1 : Int) < 400))∧(((true=true)→(((0 : Int)≤1)∧((1 : Int) < 400)))∧((((0 : Int)≤1)∧(1 < (↑(List.length (0 :: (0 :: ([] : (List Int))))) : Int)))∧((inR .i64 ((1 : Int) + 1))∧((inR .i64 ((1 : Int) + 1))∧((((0 : Int)≤0)∧(0 < (↑(List.length (0 :: (1 :: ([] : (List Int))))) : Int)))∧((((0 : Int)≤0)∧(0 < (↑(List.length (1 :: ([] : (List Int)))) : Int)))∧((((0 : Int)≤1)∧((1 : Int) < 400))∧((((0 : Int)≤1)∧(1 < (↑(List.length (0 :: (1 :: ([] : (List Int))))) : Int)))∧((inR .i64 ((0 : Int) + 1))∧((((0 : Int)≤0)∧(0 < (↑(List.length ((Edg.mk 0 1 1 (Tm.mk 2 (⟨#[65]⟩ : ByteArray) ([] : (List Tm))) ([] : (List Tm)) 0) :: ([] : (List Edg)))) : Int)))∧(((((0 : Int)≤1)∧((1 : Int) < 400))∧(((1 : Int)=5)→(((0 : Int)≤0)∧((0 : Int) < 400))))∧(((false=false)→(((0 : Int)≤0)∧((0 : Int) < 400)))∧((((0 : Int)≤0)∧(0 < (↑(List.length (0 :: (1 :: ([] : (List Int))))) : Int)))∧((((0 : Int)≤1)∧(1 < (↑(List.length (0 :: (1 :: ([] : (List Int))))) : Int)))∧((Sp.okL ([] : (List Tm)))∧((inR .i64 ((0 : Int) + 1))∧((Option.some ((Aut.mk 2 0 (1 :: ([] : (List Int))) ((Edg.mk 0 1 1 (Tm.mk 2 (⟨#[65]⟩ : ByteArray) ([] : (List Tm))) ([] : (List Tm)) 0) :: ([] : (List Edg)))), (0 : Int)))=(Option.some ((Aut.mk 2 0 (1 :: ([] : (List Int))) ((Edg.mk 0 1 1 (Tm.mk 2 (⟨#[65]⟩ : ByteArray) ([] : (List Tm))) ([] : (List Tm)) 0) :: ([] : (List Edg)))), (0 : Int)))))))))))))))))))))))))))))))))))))))))))))))))))))))))))))))))))
theorem regular_Exactly__p.w : ((regular_Exactly__i.C Go.Proofs.Tryz.prog)).run (toVs [.lst (.nm 0)] regular_Exactly__p.A) st00 (fun v _ => asTs [.nm 7, .int .i64] (unT [.nm 7, .int .i64] v) = some regular_Exactly__p.R) = regular_Exactly__p.t := by kernel_rfl
def regular_Star__p.t : Prop :=
 ((Sp.okA (Aut.mk 2 0 (1 :: ([] : (List Int))) ((Edg.mk 0 1 1 (Tm.mk 2 (⟨#[65]⟩ : ByteArray) ([] : (List Tm))) ([] : (List Tm)) 0) :: ([] : (List Edg)))))∧((inR .i64 ((2 : Int) + 1))∧(((((Edg.mk 0 1 1 (Tm.mk 2 (⟨#[65]⟩ : ByteArray) ([] : (List Tm))) ([] : (List Tm)) 0) :: ([] : (List Edg))) ≠ ([] : (List Edg)))∧((List.length ((Edg.mk 0 1 1 (Tm.mk 2 (⟨#[65]⟩ : ByteArray) ([] : (List Tm))) ([] : (List Tm)) 0) :: ([] : (List Edg))))≤8589934592))∧((((0 : Int)≤0)∧(0 < (↑(List.length ((Edg.mk 0 1 1 (Tm.mk 2 (⟨#[65]⟩ : ByteArray) ([] : (List Tm))) ([] : (List Tm)) 0) :: ([] : (List Edg)))) : Int)))∧((inR .i64 ((0 : Int) + 1))∧((((0 : Int)≤0)∧(0 < (↑(List.length ((Edg.mk 0 1 1 (Tm.mk 2 (⟨#[65]⟩ : ByteArray) ([] : (List Tm))) ([] : (List Tm)) 0) :: ([] : (List Edg)))) : Int)))∧((((0 : Int)≤0)∧(0 < (↑(List.length ((Edg.mk 1 1 1 (Tm.mk 2 (⟨#[65]⟩ : ByteArray) ([] : (List Tm))) ([] : (List Tm)) 0) :: ([] : (List Edg)))) : Int)))∧((inR .i64 ((1 : Int) + 1))∧((((0 : Int)≤0)∧(0 < (↑(List.length ((Edg.mk 1 1 1 (Tm.mk 2 (⟨#[65]⟩ : ByteArray) ([] : (List Tm))) ([] : (List Tm)) 0) :: ([] : (List Edg)))) : Int)))∧((((0 : Int)≤0)∧(0 < (↑(List.length ((Edg.mk 1 2 1 (Tm.mk 2 (⟨#[65]⟩ : ByteArray) ([] : (List Tm))) ([] : (List Tm)) 0) :: ([] : (List Edg)))) : Int)))∧((inR .i64 ((0 : Int) + 1))∧((inR .i64 ((2 : Int) * 2))∧((inR .i64 ((4 : Int) + 1))∧(((((1 :: ([] : (List Int))), (1 : Int))=((1 :: ([] : (List Int))), (1 : Int))) ∨ (((1 :: ([] : (List Int))), (1 : Int))=((1 :: ([] : (List Int))), (3 : Int))))∧((inR .i64 ((2 : Int) + 1))∧(((((1 :: ([] : (List Int))), (3 : Int))=((1 :: ([] : (List Int))), (1 : Int))) ∨ (((1 :: ([] : (List Int))), (3 : Int))=((1 :: ([] : (List Int))), (3 : Int))))∧((((0 :: ([] : (List Int))) :: ((2 :: ([] : (List Int))) :: ((4 :: ([] : (List Int))) :: ([] : (List (List Int))))))=((0 :: ([] : (List Int))) :: ((2 :: ([] : (List Int))) :: ((4 :: ([] : (List Int))) :: ([] : (List (List Int)))))))∧((inR .i64 ((0 : Int) + 1))∧(((List.length ((Edg.mk 0 2 1 (Tm.mk 2 (⟨#[65]⟩ : ByteArray) ([] : (List Tm))) ([] : (List Tm)) 0) :: ([] : (List Edg))))≤8589934592)∧((inR .i64 ((2 : Int) + 1))∧((inR .i64 ((2 : Int) + 1))∧(((((Edg.mk 0 1 1 (Tm.mk 2 (⟨#[65]⟩ : ByteArray) ([] : (List Tm))) ([] : (List Tm)) 0) :: ([] : (List Edg))) ≠ ([] : (List Edg)))∧((List.length ((Edg.mk 0 1 1 (Tm.mk 2 (⟨#[65]⟩ : ByteArray) ([] : (List Tm))) ([] : (List Tm)) 0) :: ([] : (List Edg))))≤8589934592))∧((((0 : Int)≤0)∧(0 < (↑(List.length ((Edg.mk 0 1 1 (Tm.mk 2 (⟨#[65]⟩ : ByteArray) ([] : (List Tm))) ([] : (List Tm)) 0) :: ([] : (List Edg)))) : Int)))∧((inR .i64 ((0 : Int) + 3))∧((((0 : Int)≤0)∧(0 < (↑(List.length ((Edg.mk 0 1 1 (Tm.mk 2 (⟨#[65]⟩ : ByteArray) ([] : (List Tm))) ([] : (List Tm)) 0) :: ([] : (List Edg)))) : Int)))∧((((0 : Int)≤0)∧(0 < (↑(List.length ((Edg.mk 3 1 1 (Tm.mk 2 (⟨#[65]⟩ : ByteArray) ([] : (List Tm))) ([] : (List Tm)) 0) :: ([] : (List Edg)))) : Int)))∧((inR .i64 ((1 : Int) + 3))∧((((0 : Int)≤0)∧(0 < (↑(List.length ((Edg.mk 3 1 1 (Tm.mk 2 (⟨#[65]⟩ : ByteArray) ([] : (List Tm))) ([] : (List Tm)) 0) :: ([] : (List Edg)))) : Int)))∧((((0 : Int)≤0)∧(0 < (↑(List.length ((Edg.mk 3 4 1 (Tm.mk 2 (⟨#[65]⟩ : ByteArray) ([] : (List Tm))) ([] : (List Tm)) 0) :: ([] : (List Edg)))) : Int)))∧((inR .i64 ((0 : Int) + 1))∧((((0 : Int)≤0)∧(0 < (↑(List.length (((Edg.mk 0 2 1 (Tm.mk 2 (⟨#[65]⟩ : ByteArray) ([] : (List Tm))) ([] : (List Tm)) 0) :: ([] : (List Edg))) :: (((Edg.mk 1 2 1 (Tm.mk 2 (⟨#[65]⟩ : ByteArray) ([] : (List Tm))) ([] : (List Tm)) 0) :: ([] : (List Edg))) :: (((Edg.mk 3 4 1 (Tm.mk 2 (⟨#[65]⟩ : ByteArray) ([] : (List Tm))) ([] : (List Tm)) 0) :: ([] : (List Edg))) :: ([] : (List (List Edg))))))) : Int)))∧(((List.length ((Edg.mk 0 2 1 (Tm.mk 2 (⟨#[65]⟩ : ByteArray) ([] : (List Tm))) ([] : (List Tm)) 0) :: ([] : (List Edg)))) < 9223372036854775808)→((inR .i64 ((0 : Int) + 1))∧((inR .i64 ((0 : Int) + 1))∧((((0 : Int)≤1)∧(1 < (↑(List.length (((Edg.mk 0 2 1 (Tm.mk 2 (⟨#[65]⟩ : ByteArray) ([] : (List Tm))) ([] : (List Tm)) 0) :: ([] : (List Edg))) :: (((Edg.mk 1 2 1 (Tm.mk 2 (⟨#[65]⟩ : ByteArray) ([] : (List Tm))) ([] : (List Tm)) 0) :: ([] : (List Edg))) :: (((Edg.mk 3 4 1 (Tm.mk 2 (⟨#[65]⟩ : ByteArray) ([] : (List Tm))) ([] : (List Tm)) 0) :: ([] : (List Edg))) :: ([] : (List (List Edg))))))) : Int)))∧(((List.length ((Edg.mk 1 2 1 (Tm.mk 2 (⟨#[65]⟩ : ByteArray) ([] : (List Tm))) ([] : (List Tm)) 0) :: ([] : (List Edg)))) < 9223372036854775808)→((inR .i64 ((1 : Int) + 1))∧((inR .i64 ((1 : Int) + 1))∧((((0 : Int)≤2)∧(2 < (↑(List.length (((Edg.mk 0 2 1 (Tm.mk 2 (⟨#[65]⟩ : ByteArray) ([] : (List Tm))) ([] : (List Tm)) 0) :: ([] : (List Edg))) :: (((Edg.mk 1 2 1 (Tm.mk 2 (⟨#[65]⟩ : ByteArray) ([] : (List Tm))) ([] : (List Tm)) 0) :: ([] : (List Edg))) :: (((Edg.mk 3 4 1 (Tm.mk 2 (⟨#[65]⟩ : ByteArray) ([] : (List Tm))) ([] : (List Tm)) 0) :: ([] : (List Edg))) :: ([] : (List (List Edg))))))) : Int)))∧(((List.length ((Edg.mk 3 4 1 (Tm.mk 2 (⟨#[65]⟩ : ByteArray) ([] : (List Tm))) ([] : (List Tm)) 0) :: ([] : (List Edg)))) < 9223372036854775808)→((inR .i64 ((2 : Int) + 1))∧((inR .i64 ((2 : Int) + 1))∧((((0 : Int)≤3)∧((3 : Int)≤8589934592))∧((((0 : Int)≤0)∧(0 < (↑(List.length (((Edg.mk 0 2 1 (Tm.mk 2 (⟨#[65]⟩ : ByteArray) ([] : (List Tm))) ([] : (List Tm)) 0) :: ([] : (List Edg))) :: (((Edg.mk 1 2 1 (Tm.mk 2 (⟨#[65]⟩ : ByteArray) ([] : (List Tm))) ([] : (List Tm)) 0) :: ([] : (List Edg))) :: (((Edg.mk 3 4 1 (Tm.mk 2 (⟨#[65]⟩ : ByteArray) ([] : (List Tm))) ([] : (List Tm)) 0) :: ([] : (List Edg))) :: ([] : (List (List Edg))))))) : Int)))∧((((List.length ([] : (List Edg))) + (List.length ((Edg.mk 0 2 1 (Tm.mk 2 (⟨#[65]⟩ : ByteArray) ([] : (List Tm))) ([] : (List Tm)) 0) :: ([] : (List Edg)))))≤8589934592)∧((inR .i64 ((0 : Int) + 1))∧((((0 : Int)≤1)∧(1 < (↑(List.length (((Edg.mk 0 2 1 (Tm.mk 2 (⟨#[65]⟩ : ByteArray) ([] : (List Tm))) ([] : (List Tm)) 0) :: ([] : (List Edg))) :: (((Edg.mk 1 2 1 (Tm.mk 2 (⟨#[65]⟩ : ByteArray) ([] : (List Tm))) ([] : (List Tm)) 0) :: ([] : (List Edg))) :: (((Edg.mk 3 4 1 (Tm.mk 2 (⟨#[65]⟩ : ByteArray) ([] : (List Tm))) ([] : (List Tm)) 0) :: ([] : (List Edg))) :: ([] : (List (List Edg))))))) : Int)))∧((((List.length ((Edg.mk 0 2 1 (Tm.mk 2 (⟨#[65]⟩ : ByteArray) ([] : (List Tm))) ([] : (List Tm)) 0) :: ([] : (List Edg)))) + (List.length ((Edg.mk 1 2 1 (Tm.mk 2 (⟨#[65]⟩ : ByteArray) ([] : (List Tm))) ([] : (List Tm)) 0) :: ([] : (List Edg)))))≤8589934592)∧((inR .i64 ((1 : Int) + 1))∧((((0 : Int)≤2)∧(2 < (↑(List.length (((Edg.mk 0 2 1 (Tm.mk 2 (⟨#[65]⟩ : ByteArray) ([] : (List Tm))) ([] : (List Tm)) 0) :: ([] : (List Edg))) :: (((Edg.mk 1 2 1 (Tm.mk 2 (⟨#[65]⟩ : ByteArray) ([] : (List Tm))) ([] : (List Tm)) 0) :: ([] : (List Edg))) :: (((Edg.mk 3 4 1 (Tm.mk 2 (⟨#[65]⟩ : ByteArray) ([] : (List Tm))) ([] : (List Tm)) 0) :: ([] : (List Edg))) :: ([] : (List (List Edg))))))) : Int)))∧((((List.length ((Edg.mk 0 2 1 (Tm.mk 2 (⟨#[65]⟩ : ByteArray) ([] : (List Tm))) ([] : (List Tm)) 0) :: ((Edg.mk 1 2 1 (Tm.mk 2 (⟨#[65]⟩ : ByteArray) ([] : (List Tm))) ([] : (List Tm)) 0) :: ([] : (List Edg))))) + (List.length ((Edg.mk 3 4 1 (Tm.mk 2 (⟨#[65]⟩ : ByteArray) ([] : (List Tm))) ([] : (List Tm)) 0) :: ([] : (List Edg)))))≤8589934592)∧((inR .i64 ((2 : Int) + 1))∧(((List.length (1 :: ([] : (List Int)))) < 9223372036854775808)→((((0 : Int)≤0)∧(0 < (↑(List.length (1 :: ([] : (List Int)))) : Int)))∧((inR .i64 ((1 : Int) + 1))∧((inR .i64 ((0 : Int) + 1))∧((((List.length ((Edg.mk 0 2 1 (Tm.mk 2 (⟨#[65]⟩ : ByteArray) ([] : (List Tm))) ([] : (List Tm)) 0) :: ((Edg.mk 1 2 1 (Tm.mk 2 (⟨#[65]⟩ : ByteArray) ([] : (List Tm))) ([] : (List Tm)) 0) :: ((Edg.mk 3 4 1 (Tm.mk 2 (⟨#[65]⟩ : ByteArray) ([] : (List Tm))) ([] : (List Tm)) 0) :: ([] : (List Edg)))))) + (List.length ((Edg.mk 2 2 1 (Tm.mk 2 (⟨#[65]⟩ : ByteArray) ([] : (List Tm))) ([] : (List Tm)) 0) :: ([] : (List Edg)))))≤8589934592)∧((inR .i64 ((0 : Int) + 1))∧((∀ i : Int, ((Membership.mem (0 :: (2 :: (4 :: ([] : (List Int))))) i)→((0≤i)∧(i < 400))))∧(((List.length ((Edg.mk 0 2 1 (Tm.mk 2 (⟨#[65]⟩ : ByteArray) ([] : (List Tm))) ([] : (List Tm)) 0) :: ((Edg.mk 1 2 1 (Tm.mk 2 (⟨#[65]⟩ : ByteArray) ([] : (List Tm))) ([] : (List Tm)) 0) :: ((Edg.mk 3 4 1 (Tm.mk 2 (⟨#[65]⟩ : ByteArray) ([] : (List Tm))) ([] : (List Tm)) 0) :: ((Edg.mk 2 2 1 (Tm.mk 2 (⟨#[65]⟩ : ByteArray) ([] : (List Tm))) ([] : (List Tm)) 0) :: ([] : (List Edg))))))) < 9223372036854775808)→((((0 : Int)≤0)∧(0 < (↑(List.length ((Edg.mk 0 2 1 (Tm.mk 2 (⟨#[65]⟩ : ByteArray) ([] : (List Tm))) ([] : (List Tm)) 0) :: ((Edg.mk 1 2 1 (Tm.mk 2 (⟨#[65]⟩ : ByteArray) ([] : (List Tm))) ([] : (List Tm)) 0) :: ((Edg.mk 3 4 1 (Tm.mk 2 (⟨#[65]⟩ : ByteArray) ([] : (List Tm))) ([] : (List Tm)) 0) :: ((Edg.mk 2 2 1 (Tm.mk 2 (⟨#[65]⟩ : ByteArray) ([] : (List Tm))) ([] : (List Tm)) 0) :: ([] : (List Edg))))))) : Int)))∧(((((0 : Int)≤2)∧((2 : Int) < 400))∧(((1 : Int)=5)→(((0 : Int)≤0)∧((0 : Int) < 400))))∧((((0 : Int)≤0)∧((0 : Int) < 400))∧((inR .i64 ((0 : Int) + 1))∧((((0 : Int)≤1)∧(1 < (↑(List.length ((Edg.mk 0 2 1 (Tm.mk 2 (⟨#[65]⟩ : ByteArray) ([] : (List Tm))) ([] : (List Tm)) 0) :: ((Edg.mk 1 2 1 (Tm.mk 2 (⟨#[65]⟩ : ByteArray) ([] : (List Tm))) ([] : (List Tm)) 0) :: ((Edg.mk 3 4 1 (Tm.mk 2 (⟨#[65]⟩ : ByteArray) ([] : (List Tm))) ([] : (List Tm)) 0) :: ((Edg.mk 2 2 1 (Tm.mk 2 (⟨#[65]⟩ : ByteArray) ([] : (List Tm))) ([] : (List Tm)) 0) :: ([] : (List Edg))))))) : Int)))∧(((((0 : Int)≤2)∧((2 : Int) < 400))∧(((1 : Int)=5)→(((0 : Int)≤0)∧((0 : Int) < 400))))∧((((0 : Int)≤1)∧((1 : Int) < 400))∧((inR .i64 ((1 : Int) + 1))∧((((0 : Int)≤2)∧(2 < (↑(List.length ((Edg.mk 0 2 1 (Tm.mk 2 (⟨#[65]⟩ : ByteArray) ([] : (List Tm))) ([] : (List Tm)) 0) :: ((Edg.mk 1 2 1 (Tm.mk 2 (⟨#[65]⟩ : ByteArray) ([] : (List Tm))) ([] : (List Tm)) 0) :: ((Edg.mk 3 4 1 (Tm.mk 2 (⟨#[65]⟩ : ByteArray) ([] : (List Tm))) ([] : (List Tm)) 0) :: ((Edg.mk 2 2 1 (Tm.mk 2 (⟨#[65]⟩ : ByteArray) ([] : (List Tm))) ([] : (List Tm)) 0) :: ([] : (List Edg))))))) : Int)))∧(((((0 : Int)≤4)∧((4 : Int) < 400))∧(((1 : Int)=5)→(((0 : Int)≤0)∧((0 : Int) < 400))))∧((((0 : Int)≤3)∧((3 : Int) < 400))∧((inR .i64 ((2 : Int) + 1))∧((((0 : Int)≤3)∧(3 < (↑(List.length ((Edg.mk 0 2 1 (Tm.mk 2 (⟨#[65]⟩ : ByteArray) ([] : (List Tm))) ([] : (List Tm)) 0) :: ((Edg.mk 1 2 1 (Tm.mk 2 (⟨#[65]⟩ : ByteArray) ([] : (List Tm))) ([] : (List Tm)) 0) :: ((Edg.mk 3 4 1 (Tm.mk 2 (⟨#[65]⟩ : ByteArray) ([] : (List Tm))) ([] : (List Tm)) 0) :: ((Edg.mk 2 2 1 (Tm.mk 2 (⟨#[65]⟩ : ByteArray) ([] : (List Tm))) ([] : (List Tm)) 0) :: ([] : (List Edg))))))) : Int)))∧(((((0 : Int)≤2)∧((2 : Int) < 400))∧(((1 : Int)=5)→(((0 : Int)≤0)∧((0 : Int) < 400))))∧((((0 : Int)≤2)∧((2 : Int) < 400))∧((inR .i64 ((3 : Int) + 1))∧(((List.length ((Edg.mk 0 2 1 (Tm.mk 2 (⟨#[65]⟩ : ByteArray) ([] : (List Tm))) ([] : (List Tm)) 0) :: ((Edg.mk 1 2 1 (Tm.mk 2 (⟨#[65]⟩ : ByteArray) ([] : (List Tm))) ([] : (List Tm)) 0) :: ((Edg.mk 3 4 1 (Tm.mk 2 (⟨#[65]⟩ : ByteArray) ([] : (List Tm))) ([] : (List Tm)) 0) :: ((Edg.mk 2 2 1 (Tm.mk 2 (⟨#[65]⟩ : ByteArray) ([] : (List Tm))) ([] : (List Tm)) 0) :: ([] : (List Edg))))))) < 9223372036854775808)→((((0 : Int)≤0)∧(0 < (↑(List.length ((Edg.mk 0 2 1 (Tm.mk 2 (⟨#[65]⟩ : ByteArray) ([] : (List Tm))) ([] : (List Tm)) 0) :: ((Edg.mk 1 2 1 (Tm.mk 2 (⟨#[65]⟩ : ByteArray) ([] : (List Tm))) ([] : (List Tm)) 0) :: ((Edg.mk 3 4 1 (Tm.mk 2 (⟨#[65]⟩ : ByteArray) ([] : (List Tm))) ([] : (List Tm)) 0) :: ((Edg.mk 2 2 1 (Tm.mk 2 (⟨#[65]⟩ : ByteArray) ([] : (List Tm))) ([] : (List Tm)) 0) :: ([] : (List Edg))))))) : Int)))∧(((((0 : Int)≤2)∧((2 : Int) < 400))∧(((1 : Int)=5)→(((0 : Int)≤0)∧((0 : Int) < 400))))∧((((0 : Int)≤0)∧((0 : Int) < 400))∧((inR .i64 ((0 : Int) + 1))∧((((0 : Int)≤1)∧(1 < (↑(List.length ((Edg.mk 0 2 1 (Tm.mk 2 (⟨#[65]⟩ : ByteArray) ([] : (List Tm))) ([] : (List Tm)) 0) :: ((Edg.mk 1 2 1 (Tm.mk 2 (⟨#[65]⟩ : ByteArray) ([] : (List Tm))) ([] : (List Tm)) 0) :: ((Edg.mk 3 4 1 (Tm.mk 2 (⟨#[65]⟩ : ByteArray) ([] : (List Tm))) ([] : (List Tm)) 0) :: ((Edg.mk 2 2 1 (Tm.mk 2 (⟨#[65]⟩ : ByteArray) ([] : (List Tm))) ([] : (List Tm)) 0) :: ([] : (List Edg))))))) : Int)))∧(((((0 : Int)≤2)∧((2 : Int) < 400))∧(((1 : Int)=5)→(((0 : Int)≤0)∧((0 : Int) < 400))))∧((((0 : Int)≤1)∧((1 : Int) < 400))∧((inR .i64 ((1 : Int) + 1))∧((((0 : Int)≤2)∧(2 < (↑(List.length ((Edg.mk 0 2 1 (Tm.mk 2 (⟨#[65]⟩ : ByteArray) ([] : (List Tm))) ([] : (List Tm)) 0) :: ((Edg.mk 1 2 1 (Tm.mk 2 (⟨#[65]⟩ : ByteArray) ([] : (List Tm))) ([] : (List Tm)) 0) :: ((Edg.mk 3 4 1 (Tm.mk 2 (⟨#[65]⟩ : ByteArray) ([] : (List Tm))) ([] : (List Tm)) 0) :: ((Edg.mk 2 2 1 (Tm.mk 2 (⟨#[65]⟩ : ByteArray) ([] : (List Tm))) ([] : (List Tm)) 0) :: ([] : (List Edg))))))) : Int)))∧(((((0 : Int)≤4)∧((4 : Int) < 400))∧(((1 : Int)=5)→(((0 : Int)≤0)∧((0 : Int) < 400))))∧((((0 : Int)≤3)∧((3 : Int) < 400))∧((inR .i64 ((2 : Int) + 1))∧((((0 : Int)≤3)∧(3 < (↑(List.length ((Edg.mk 0 2 1 (Tm.mk 2 (⟨#[65]⟩ : ByteArray) ([] : (List Tm))) ([] : (List Tm)) 0) :: ((Edg.mk 1 2 1 (Tm.mk 2 (⟨#[65]⟩ : ByteArray) ([] : (List Tm))) ([] : (List Tm)) 0) :: ((Edg.mk 3 4 1 (Tm.mk 2 (⟨#[65]⟩ : ByteArray) ([] : (List Tm))) ([] : (List Tm)) 0) :: ((Edg.mk 2 2 1 (Tm.mk 2 (⟨#[65]⟩ : ByteArray) ([] : (List Tm))) ([] : (List Tm)) 0) :: ([] : (List Edg))))))) : Int)))∧(((((0 : Int)≤2)∧((2 : Int) < 400))∧(((1 : Int)=5)→(((0 : Int)≤0)∧((0 : Int) < 400))))∧((((0 : Int)≤2)∧((2 : Int) < 400))∧((inR .i64 ((3 : Int) + 1))∧((((0 : Int)≤0)∧((0 : Int) < 400))∧((((0 : Int)≤0)∧((0 : Int) < 400))∧(((List.length ((Edg.mk 0 2 1 (Tm.mk 2 (⟨#[65]⟩ : ByteArray) ([] : (List Tm))) ([] : (List Tm)) 0) :: ((Edg.mk 1 2 1 (Tm.mk 2 (⟨#[65]⟩ : ByteArray) ([] : (List Tm))) ([] : (List Tm)) 0) :: ((Edg.mk 3 4 1 (Tm.mk 2 (⟨#[65]⟩ : ByteArray) ([] : (List Tm))) ([] : (List Tm)) 0) :: ((Edg.mk 2 2 1 (Tm.mk 2 (⟨#[65]⟩ : ByteArray) ([] : (List Tm))) ([] : (List Tm)) 0) :: ([] : (List Edg))))))) < 9223372036854775808)→((((0 : Int)≤0)∧(0 < (↑(List.length ((Edg.mk 0 2 1 (Tm.mk 2 (⟨#[65]⟩ : ByteArray) ([] : (List Tm))) ([] : (List Tm)) 0) :: ((Edg.mk 1 2 1 (Tm.mk 2 (⟨#[65]⟩ : ByteArray) ([] : (List Tm))) ([] : (List Tm)) 0) :: ((Edg.mk 3 4 1 (Tm.mk 2 (⟨#[65]⟩ : ByteArray) ([] : (List Tm))) ([] : (List Tm)) 0) :: ((Edg.mk 2 2 1 (Tm.mk 2 (⟨#[65]⟩ : ByteArray) ([] : (List Tm))) ([] : (List Tm)) 0) :: ([] : (List Edg))))))) : Int)))∧((((0 : Int)≤0)∧((0 : Int) < 400))∧(((true=true)→((((0 : Int)≤2)∧((2 : Int) < 400))∧(((1 : Int)=5)→(((0 : Int)≤0)∧((0 : Int) < 400)))))∧((((0 : Int)≤2)∧((2 : Int) < 400))∧((inR .i64 ((0 : Int) + 1))∧((((0 : Int)≤1)∧(1 < (↑(List.length ((Edg.mk 0 2 1 (Tm.mk 2 (⟨#[65]⟩ : ByteArray) ([] : (List Tm))) ([] : (List Tm)) 0) :: ((Edg.mk 1 2 1 (Tm.mk 2 (⟨#[65]⟩ : ByteArray) ([] : (List Tm))) ([] : (List Tm)) 0) :: ((Edg.mk 3 4 1 (Tm.mk 2 (⟨#[65]⟩ : ByteArray) ([] : (List Tm))) ([] : (List Tm)) 0) :: ((Edg.mk 2 2 1 (Tm.mk 2 (⟨#[65]⟩ : ByteArray) ([] : (List Tm))) ([] : (List Tm)) 0) :: ([] : (List Edg))))))) : Int)))∧((((0 : Int)≤1)∧((1 : Int) < 400))∧(((false=true)→((((0 : Int)≤2)∧((2 : Int) < 400))∧(((1 : Int)=5)→(((0 : Int)≤0)∧((0 : Int) < 400)))))∧((inR .i64 ((1 : Int) + 1))∧((((0 : Int)≤2)∧(2 < (↑(List.length ((Edg.mk 0 2 1 (Tm.mk 2 (⟨#[65]⟩ : ByteArray) ([] : (List Tm))) ([] : (List Tm)) 0) :: ((Edg.mk 1 2 1 (Tm.mk 2 (⟨#[65]⟩ : ByteArray) ([] : (List Tm))) ([] : (List Tm)) 0) :: ((Edg.mk 3 4 1 (Tm.mk 2 (⟨#[65]⟩ : ByteArray) ([] : (List Tm))) ([] : (List Tm)) 0) :: ((Edg.mk 2 2 1 (Tm.mk 2 (⟨#[65]⟩ : ByteArray) ([] : (List Tm))) ([] : (List Tm)) 0) :: ([] : (List Edg))))))) : Int)))∧((((0 : Int)≤3)∧((3 : Int) < 400))∧(((false=true)→((((0 : Int)≤4)∧((4 : Int) < 400))∧(((1 : Int)=5)→(((0 : Int)≤0)∧((0 : Int) < 400)))))∧((inR .i64 ((2 : Int) + 1))∧((((0 : Int)≤3)∧(3 < (↑(List.length ((Edg.mk 0 2 1 (Tm.mk 2 (⟨#[65]⟩ : ByteArray) ([] : (List Tm))) ([] : (List Tm)) 0) :: ((Edg.mk 1 2 1 (Tm.mk 2 (⟨#[65]⟩ : ByteArray) ([] : (List Tm))) ([] : (List Tm)) 0) :: ((Edg.mk 3 4 1 (Tm.mk 2 (⟨#[65]⟩ : ByteArray) ([] : (List Tm))) ([] : (List Tm)) 0) :: ((Edg.mk 2 2 1 (Tm.mk 2 (⟨#[65]⟩ : ByteArray) ([] : (List Tm))) ([] : (List Tm)) 0) :: ([] : (List Edg))))))) : Int)))∧((((0 : Int)≤2)∧((2 : Int) < 400))∧(((true=true)→((((0 : Int)≤2)∧((2 : Int) < 400))∧(((1 : Int)=5)→(((0 : Int)≤0)∧((0 : Int) < 400)))))∧((((0 : Int)≤2)∧((2 : Int) < 400))∧((inR .i64 ((3 : Int) + 1))∧(((List.length ((Edg.mk 0 2 1 (Tm.mk 2 (⟨#[65]⟩ : ByteArray) ([] : (List Tm))) ([] : (List Tm)) 0) :: ((Edg.mk 1 2 1 (Tm.mk 2 (⟨#[65]⟩ : ByteArray) ([] : (List Tm))) ([] : (List Tm)) 0) :: ((Edg.mk 3 4 1 (Tm.mk 2 (⟨#[65]⟩ : ByteArray) ([] : (List Tm))) ([] : (List Tm)) 0) :: ((Edg.mk 2 2 1 (Tm.mk 2 (⟨#[65]⟩ : ByteArray) ([] : (List Tm))) ([] : (List Tm)) 0) :: ([] : (List Edg))))))) < 9223372036854775808)→((((0 : Int)≤0)∧(0 < (↑(List.length ((Edg.mk 0 2 1 (Tm.mk 2 (⟨#[65]⟩ : ByteArray) ([] : (List Tm))) ([] : (List Tm)) 0) :: ((Edg.mk 1 2 1 (Tm.mk 2 (⟨#[65]⟩ : ByteArray) ([] : (List Tm))) ([] : (List Tm)) 0) :: ((Edg.mk 3 4 1 (Tm.mk 2 (⟨#[65]⟩ : ByteArray) ([] : (List Tm))) ([] : (List Tm)) 0) :: ((Edg.mk 2 2 1 (Tm.mk 2 (⟨#[65]⟩ : ByteArray) ([] : (List Tm))) ([] : (List Tm)) 0) :: ([] : (List Edg))))))) : Int)))∧((((0 : Int)≤0)∧((0 : Int) < 400))∧(((true=true)→((((0 : Int)≤2)∧((2 : Int) < 400))∧(((1 : Int)=5)→(((0 : Int)≤0)∧((0 : Int) < 400)))))∧((((0 : Int)≤2)∧((2 : Int) < 400))∧((inR .i64 ((0 : Int) + 1))∧((((0 : Int)≤1)∧(1 < (↑(List.length ((Edg.mk 0 2 1 (Tm.mk 2 (⟨#[65]⟩ : ByteArray) ([] : (List Tm))) ([] : (List Tm)) 0) :: ((Edg.mk 1 2 1 (Tm.mk 2 (⟨#[65]⟩ : ByteArray) ([] : (List Tm))) ([] : (List Tm)) 0) :: ((Edg.mk 3 4 1 (Tm.mk 2 (⟨#[65]⟩ : ByteArray) ([] : (List Tm))) ([] : (List Tm)) 0) :: ((Edg.mk 2 2 1 (Tm.mk 2 (⟨#[65]⟩ : ByteArray) ([] : (List Tm))) ([] : (List Tm)) 0) :: ([] : (List Edg))))))) : Int)))∧((((0 : Int)≤1)∧((1 : Int) < 400))∧(((false=true)→((((0 : Int)≤2)∧((2 : Int) < 400))∧(((1 : Int)=5)→(((0 : Int)≤0)∧((0 : Int) < 400)))))∧((inR .i64 ((1 : Int) + 1))∧((((0 : Int)≤2)∧(2 < (↑(List.length ((Edg.mk 0 2 1 (Tm.mk 2 (⟨#[65]⟩ : ByteArray) ([] : (List Tm))) ([] : (List Tm)) 0) :: ((Edg.mk 1 2 1 (Tm.mk 2 (⟨#[65]⟩ : ByteArray) ([] : (List Tm))) ([] : (List Tm)) 0) :: ((Edg.mk 3 4 1 (Tm.mk 2 (⟨#[65]⟩ : ByteArray) ([] : (List Tm))) ([] : (List Tm)) 0) :: ((Edg.mk 2 2 1 (Tm.mk 2 (⟨#[65]⟩ : ByteArray) ([] : (List Tm))) ([] : (List Tm)) 0) :: ([] : (List Edg))))))) : Int)))∧((((0 : Int)≤3)∧((3 : Int) < 400))∧(((false=true)→((((0 : Int)≤4)∧((4 : Int) < 400))∧(((1 : Int)=5)→(((0 : Int)≤0)∧((0 : Int) < 400)))))∧((inR .i64 ((2 : Int) + 1))∧((((0 : Int)≤3)∧(3 < (↑(List.length ((Edg.mk 0 2 1 (Tm.mk 2 (⟨#[65]⟩ : ByteArray) ([] : (List Tm))) ([] : (List Tm)) 0) :: ((Edg.mk 1 2 1 (Tm.mk 2 (⟨#[65]⟩ : ByteArray) ([] : (List Tm))) ([] : (List Tm)) 0) :: ((Edg.mk 3 4 1 (Tm.mk 2 (⟨#[65]⟩ : ByteArray) ([] : (List Tm))) ([] : (List Tm)) 0) :: ((Edg.mk 2 2 1 (Tm.mk 2 (⟨#[65]⟩ : ByteArray) ([] : (List Tm))) ([] : (List Tm)) 0) :: ([] : (List Edg))))))) : Int)))∧((((0 : Int)≤2)∧((2 : Int) < 400))∧(((true=true)→((((0 : Int)≤2)∧((2 : Int) < 400))∧(((1 : Int)=5)→(((0 : Int)≤0)∧((0 : Int) < 400)))))∧((((0 : Int)≤2)∧((2 : Int) < 400))∧((inR .i64 ((3 : Int) + 1))∧((((0 : Int)≤5)∧(((5 : Int)≤5)∧((5 : Int)≤8589934592)))∧((((0 : Int)≤0)∧((0 : Int) < 400))∧(((true=true)→(((0 : Int)≤0)∧((0 : Int) < 400)))∧((((0 : Int)≤0)∧(0 < (↑(List.length (0 :: (0 :: (0 :: (0 :: (0 :: ([] : (List Int)))))))) : Int)))∧((inR .i64 ((0 : Int) + 1))∧((inR .i64 ((0 : Int) + 1))∧((((0 : Int)≤1)∧((1 : Int) < 400))∧(((false=true)→(((0 : Int)≤1)∧((1 : Int) < 400)))∧((inR .i64 ((1 : Int) + 1))∧((((0 : Int)≤2)∧((2 : Int) < 400))∧(((true=true)→(((0 : Int)≤2)∧((2 : Int) < 400)))∧((((0 : Int)≤2)∧(2 < (↑(List.length (0 :: (0 :: (0 :: (0 :: (0 :: ([] : (List Int)))))))) : Int)))∧((inR .i64 ((1 : Int) + 1))∧((inR .i64 ((2 : Int) + 1))∧((((0 : Int)≤3)∧((3 : Int) < 400))∧(((false=true)→(((0 : Int)≤3)∧((3 : Int) < 400)))∧((inR .i64 ((3 : Int) + 1))∧((((0 : Int)≤4)∧((4 : Int) < 400))∧(((false=true)→(((0 : Int)≤4)∧((4 : Int) < 400)))∧((inR .i64 ((4 : Int) + 1))∧((((0 : Int)≤0)∧(0 < (↑(List.length (0 :: (0 :: (1 :: (0 :: (0 :: ([] : (List Int)))))))) : Int)))∧(((List.length (0 :: (2 :: (4 :: ([] : (List Int)))))) < 9223372036854775808)→((((0 : Int)≤0)∧(0 < (↑(List.length (0 :: (2 :: (4 :: ([] : (List Int)))))) : Int)))∧((((0 : Int)≤0)∧((0 : Int) < 400))∧((((0 : Int)≤0)∧(0 < (↑(List.length (0 :: (0 :: (1 :: (0 :: (0 :: ([] : (List Int)))))))) : Int)))∧((inR .i64 ((0 : Int) + 1))∧((((0 : Int)≤1)∧(1 < (↑(List.length (0 :: (2 :: (4 :: ([] : (List Int)))))) : Int)))∧((((0 : Int)≤2)∧((2 : Int) < 400))∧((((0 : Int)≤2)∧(2 < (↑(List.length (0 :: (0 :: (1 :: (0 :: (0 :: ([] : (List Int)))))))) : Int)))∧((inR .i64 ((1 : Int) + 1))∧((((0 : Int)≤2)∧(2 < (↑(List.length (0 :: (2 :: (4 :: ([] : (List Int)))))) : Int)))∧((((0 : Int)≤4)∧((4 : Int) < 400))∧((inR .i64 ((2 : Int) + 1))∧(((List.length ((Edg.mk 0 2 1 (Tm.mk 2 (⟨#[65]⟩ : ByteArray) ([] : (List Tm))) ([] : (List Tm)) 0) :: ((Edg.mk 1 2 1 (Tm.mk 2 (⟨#[65]⟩ : ByteArray) ([] : (List Tm))) ([] : (List Tm)) 0) :: ((Edg.mk 3 4 1 (Tm.mk 2 (⟨#[65]⟩ : ByteArray) ([] : (List Tm))) ([] : (List Tm)) 0) :: ((Edg.mk 2 2 1 (Tm.mk 2 (⟨#[65]⟩ : ByteArray) ([] : (List Tm))) ([] : (List Tm)) 0) :: ([] : (List Edg))))))) < 9223372036854775808)→((((0 : Int)≤0)∧(0 < (↑(List.length ((Edg.mk 0 2 1 (Tm.mk 2 (⟨#[65]⟩ : ByteArray) ([] : (List Tm))) ([] : (List Tm)) 0) :: ((Edg.mk 1 2 1 (Tm.mk 2 (⟨#[65]⟩ : ByteArray) ([] : (List Tm))) ([] : (List Tm)) 0) :: ((Edg.mk 3 4 1 (Tm.mk 2 (⟨#[65]⟩ : ByteArray) ([] : (List Tm))) ([] : (List Tm)) 0) :: ((Edg.mk 2 2 1 (Tm.mk 2 (⟨#[65]⟩ : ByteArray) ([] : (List Tm))) ([] : (List Tm)) 0) :: ([] : (List Edg))))))) : Int)))∧(((((0 : Int)≤2)∧((2 : Int) < 400))∧(((1 : Int)=5)→(((0 : Int)≤0)∧((0 : Int) < 400))))∧(((false=false)→(((0 : Int)≤0)∧((0 : Int) < 400)))∧((((0 : Int)≤0)∧(0 < (↑(List.length (0 :: (0 :: (1 :: (0 :: (0 :: ([] : (List Int)))))))) : Int)))∧((((0 : Int)≤2)∧(2 < (↑(List.length (0 :: (0 :: (1 :: (0 :: (0 :: ([] : (List Int)))))))) : Int)))∧((Sp.okL ([] : (List Tm)))∧((inR .i64 ((0 : Int) + 1))∧((((0 : Int)≤1)∧(1 < (↑(List.length ((Edg.mk 0 2 1 (Tm.mk 2 (⟨#[65]⟩ : ByteArray) ([] : (List Tm))) ([] : (List Tm)) 0) :: ((Edg.mk 1 2 1 (Tm.mk 2 (⟨#[65]⟩ : ByteArray) ([] : (List Tm))) ([] : (List Tm)) 0) :: ((Edg.mk 3 4 1 (Tm.mk 2 (⟨#[65]⟩ : ByteArray) ([] : (List Tm))) ([] : (List Tm)) 0) :: ((Edg.mk 2 2 1 (Tm.mk 2 (⟨#[65]⟩ : ByteArray) ([] : (List Tm))) ([] : (List Tm)) 0) :: ([] : (List Edg))))))) : Int)))∧(((((0 : Int)≤2)∧((2 : Int) < 400))∧(((1 : Int)=5)→(((0 : Int)≤0)∧((0 : Int) < 400))))∧(((false=false)→(((0 : Int)≤1)∧((1 : Int) < 400)))∧((inR .i64 ((1 : Int) + 1))∧((((0 : Int)≤2)∧(2 < (↑(List.length ((Edg.mk 0 2 1 (Tm.mk 2 (⟨#[65]⟩ : ByteArray) ([] : (List Tm))) ([] : (List Tm)) 0) :: ((Edg.mk 1 2 1 (Tm.mk 2 (⟨#[65]⟩ : ByteArray) ([] : (List Tm))) ([] : (List Tm)) 0) :: ((Edg.mk 3 4 1 (Tm.mk 2 (⟨#[65]⟩ : ByteArray) ([] : (List Tm))) ([] : (List Tm)) 0) :: ((Edg.mk 2 2 1 (Tm.mk 2 (⟨#[65]⟩ : ByteArray) ([] : (List Tm))) ([] : (List Tm)) 0) :: ([] : (List Edg))))))) : Int)))∧(((((0 : Int)≤4)∧((4 : Int) < 400))∧(((1 : Int)=5)→(((0 : Int)≤0)∧((0 : Int) < 400))))∧(((false=false)→(((0 : Int)≤3)∧((3 : Int) < 400)))∧((inR .i64 ((2 : Int) + 1))∧((((0 : Int)≤3)∧(3 < (↑(List.length ((Edg.mk 0 2 1 (Tm.mk 2 (⟨#[65]⟩ : ByteArray) ([] : (List Tm))) ([] : (List Tm)) 0) :: ((Edg.mk 1 2 1 (Tm.mk 2 (⟨#[65]⟩ : ByteArray) ([] : (List Tm))) ([] : (List Tm)) 0) :: ((Edg.mk 3 4 1 (Tm.mk 2 (⟨#[65]⟩ : ByteArray) ([] : (List Tm))) ([] : (List Tm)) 0) :: ((Edg.mk 2 2 1 (Tm.mk 2 (⟨#[65]⟩ : ByteArray) ([] : (List Tm))) ([] : (List Tm)) 0) :: ([] : (List Edg))))))) : Int)))∧(((((0 : Int)≤2)∧((2 : Int) < 400))∧(((1 : Int)=5)→(((0 : Int)≤0)∧((0 : Int) < 400))))∧(((false=false)→(((0 : Int)≤2)∧((2 : Int) < 400)))∧((((0 : Int)≤2)∧(2 < (↑(List.length (0 :: (0 :: (1 :: (0 :: (0 :: ([] : (List Int)))))))) : Int)))∧((((0 : Int)≤2)∧(2 < (↑(List.length (0 :: (0 :: (1 :: (0 :: (0 :: ([] : (List Int)))))))) : Int)))∧((Sp.okL ([] : (List Tm)))∧((((0 : Int)≤0)∧(0 < (↑(List.length ((Edg.mk 0 1 1 (Tm.mk 2 (⟨#[65]⟩ : ByteArray) ([] : (List Tm))) ([] : (List Tm)) 0) :: ([] : (List Edg)))) : Int)))∧(((false=true)→((inR .i64 ((0 : Int) + 1))∧((inR .i64 ((3 : Int) + 1))∧((Option.some ((Aut.mk 2 0 (0 :: (1 :: ([] : (List Int)))) ((Edg.mk 0 1 1 (Tm.mk 2 (⟨#[65]⟩ : ByteArray) ([] : (List Tm))) ([] : (List Tm)) 0) :: ((Edg.mk 1 1 1 (Tm.mk 2 (⟨#[65]⟩ : ByteArray) ([] : (List Tm))) ([] : (List Tm)) 0) :: ([] : (List Edg))))), (0 : Int)))=(Option.some ((Aut.mk 2 0 (0 :: (1 :: ([] : (List Int)))) ((Edg.mk 0 1 1 (Tm.mk 2 (⟨#[65]⟩ : ByteArray) ([] : (List Tm))) ([] : (List Tm)) 0) :: ((Edg.mk 1 1 1 (Tm.mk 2 (⟨#[65]⟩ : ByteArray) ([] : (List Tm))) ([] : (List Tm)) 0) :: ([] : (List Edg))))), (0 : Int)))))))∧((false=(!true))→((inR .i64 ((0 : Int) + 1))∧((inR .i64 ((3 : Int) + 1))∧((Option.some ((Aut.mk 2 0 (0 :: (1 :: ([] : (List Int)))) ((Edg.mk 0 1 1 (Tm.mk 2 (⟨#[65]⟩ : ByteArray) ([] : (List Tm))) ([] : (List Tm)) 0) :: ((Edg.mk 1 1 1 (Tm.mk 2 (⟨#[65]⟩ : ByteArray) ([] : (List Tm))) ([] : (List Tm)) 0) :: ([] : (List Edg))))), (0 : Int)))=(Option.some ((Aut.mk 2 0 (0 :: (1 :: ([] : (List Int)))) ((Edg.mk 0 1 1 (Tm.mk 2 (⟨#[65]⟩ : ByteArray) ([] : (List Tm))) ([] : (List Tm)) 0) :: ((Edg.mk 1 1 1 (Tm.mk 2 (⟨#[65]⟩ : ByteArray) ([] : (List Tm))) ([] : (List Tm)) 0) :: ([] : (List Edg))))), (0 : Int)))))))))))))))))))))))))))))))))))))))))))))))))))))))))))))))))))))))))))))))))))))))))))))))))))))))))))))))))))))))))))))))))))))))))))))))))))))))))))))))))))))))))))))))))))))))))))))))))))))
theorem regular_Star__p.w : ((regular_Star__i.C Go.Proofs.Tryz.prog)).run (toVs [.nm 7] regular_Star__p.A) st00 (fun v _ => asTs [.nm 7, .int .i64] (unT [.nm 7, .int .i64] v) = some regular_Star__p.R) = regular_Star__p.t := by kernel_rfl
def l23_awake.t : Prop :=
 ((((Tm.mk 2 (⟨#[65]⟩ : ByteArray) ([] : (List Tm))) :: ([] : (List Tm)))=((Tm.mk 2 (⟨#[65]⟩ : ByteArray) ([] : (List Tm))) :: ([] : (List Tm))))∧(((Aut.mk 2 0 (1 :: ([] : (List Int))) ((Edg.mk 0 1 1 (Tm.mk 2 (⟨#[65]⟩ : ByteArray) ([] : (List Tm))) ([] : (List Tm)) 0) :: ([] : (List Edg))))=(Aut.mk 2 0 (1 :: ([] : (List Int))) ((Edg.mk 0 1 1 (Tm.mk 2 (⟨#[65]⟩ : ByteArray) ([] : (List Tm))) ([] : (List Tm)) 0) :: ([] : (List Edg)))))∧(((Sp.okA (Aut.mk 2 0 (0 :: (1 :: ([] : (List Int)))) ((Edg.mk 0 1 1 (Tm.mk 2 (⟨#[65]⟩ : ByteArray) ([] : (List Tm))) ([] : (List Tm)) 0) :: ((Edg.mk 1 1 1 (Tm.mk 2 (⟨#[65]⟩ : ByteArray) ([] : (List Tm))) ([] : (List Tm)) 0) :: ([] : (List Edg))))))∧(Sp.okL ((Tm.mk 2 (⟨#[65]⟩ : ByteArray) ([] : (List Tm))) :: ((Tm.mk 2 (⟨#[65]⟩ : ByteArray) ([] : (List Tm))) :: ([] : (List Tm))))))∧((Option.some true)=(Option.some true)))))
theorem l23_awake.w : ((l23_awake__i.C Go.Proofs.Tryz.prog)).run (toVs [] l23_awake.A) st00 (fun v _ => asTs [.bool] (unT [.bool] v) = some l23_awake.R) = l23_awake.t := by kernel_rfl
end Go.AL
namespace Go.AL
set_option linter.unusedVariables false
set_option linter.unusedSimpArgs false
set_option maxRecDepth 10000
attribute [local irreducible] wpF wpFX wpM wpFM
theorem regular_like__i.ok (W : World) : CtrOK Go.Proofs.Tryz.prog W 43 regular_like__i.C := TK.ok (g := 83) (by kernel_rfl) (by kernel_rfl)
theorem slices_AppendSeq__i.ok (W : World) : CtrOK Go.Proofs.Tryz.prog W 44 slices_AppendSeq__i.C := TQ.ok (by kernel_rfl)
theorem slices_Collect__i.ok (W : World) : CtrOK Go.Proofs.Tryz.prog W 42 slices_Collect__i.C := TQ.okC (f := 44) (by kernel_rfl) (by kernel_rfl)
theorem slices_Grow__i.ok (W : World) : CtrOK Go.Proofs.Tryz.prog W 82 slices_Grow__i.C := TW.ok (by kernel_rfl)
theorem slices_Grow_113__i.ok (W : World) : CtrOK Go.Proofs.Tryz.prog W 113 slices_Grow_113__i.C := TW.ok (by kernel_rfl)
theorem slices_Clone__i.ok (W : World) : CtrOK Go.Proofs.Tryz.prog W 78 (slices_Clone__i.C Go.Proofs.Tryz.prog) := by
 exact inlCF_ok (lookC_ok (fun p hp => by
  simp only [List.mem_cons, List.not_mem_nil, or_false] at hp
  subst hp; exact deadC_ok))
theorem slices_Clone_81__i.ok (W : World) : CtrOK Go.Proofs.Tryz.prog W 81 (slices_Clone_81__i.C Go.Proofs.Tryz.prog) := by
 exact inlCF_ok (lookC_ok (fun p hp => by
  simp only [List.mem_cons, List.not_mem_nil, or_false] at hp
  subst hp; exact deadC_ok))
theorem regular_behind__i.ok (W : World) : CtrOK Go.Proofs.Tryz.prog W 38 (regular_behind__i.C Go.Proofs.Tryz.prog) := by
 exact inlCF_ok (lookC_ok (fun p hp => by
  simp only [List.mem_cons, List.not_mem_nil, or_false] at hp
  subst hp; exact slices_Clone__i.ok W))
theorem regular_plus__i.ok (W : World) : CtrOK Go.Proofs.Tryz.prog W 40 (regular_plus__i.C Go.Proofs.Tryz.prog) := by
 exact inlCF_ok (lookC_ok (fun p hp => by
  simp only [List.mem_cons, List.not_mem_nil, or_false] at hp
  subst hp; exact slices_Clone_81__i.ok W))
set_option maxHeartbeats 8000000 in
theorem regular_plus__p1.main : regular_plus__p1.t := by
 repeat' (first | exact rfl | trivial | decide | (refine And.intro ?_ ?_) | intro _)
set_option maxHeartbeats 8000000 in
theorem regular_plus__p2.main : regular_plus__p2.t := by
 repeat' (first | exact rfl | trivial | decide | (refine And.intro ?_ ?_) | intro _)
theorem regular_plus__p.ok (W : World) : CtrOK Go.Proofs.Tryz.prog W 40 regular_plus__p.C :=
 point2_ok (regular_plus__i.ok W) regular_plus__p1.A regular_plus__p2.A regular_plus__p.sp (by simp) (Eq.mpr regular_plus__p1.w regular_plus__p1.main) (Eq.mpr regular_plus__p2.w regular_plus__p2.main)
theorem slices_Concat__i.ok (W : World) : CtrOK Go.Proofs.Tryz.prog W 41 (slices_Concat__i.C Go.Proofs.Tryz.prog) := by
 exact inlCF_ok (lookC_ok (fun p hp => by
  simp only [List.mem_cons, List.not_mem_nil, or_false] at hp
  subst hp; exact slices_Grow__i.ok W))
theorem slices_Concat_79__i.ok (W : World) : CtrOK Go.Proofs.Tryz.prog W 79 (slices_Concat_79__i.C Go.Proofs.Tryz.prog) := by
 exact inlCF_ok (lookC_ok (fun p hp => by
  simp only [List.mem_cons, List.not_mem_nil, or_false] at hp
  subst hp; exact slices_Grow_113__i.ok W))
theorem cmp_Less.main (x y : Int) : cmp_Less.t x y := by
 simp [cmp_Less.t]
theorem cmp_Less.ok (W : World) : CtrOK Go.Proofs.Tryz.prog W 108 cmp_Less.C := by
 refine funOK (Γ := lookC [(128, cmp_isNaN.C)]) (lookC_ok (fun p hp => by
  simp only [List.mem_cons, List.not_mem_nil, or_false] at hp
  subst hp; exact cmp_isNaN.ok W)) (Λ := fun a_ => match a_ with | (x, y) => (fun _ => none)) (Λr := fun a_ => match a_ with | (x, y) => (fun _ => none)) ?_
 intro a ha
 obtain ⟨x, y⟩ := a
 refine Eq.mpr ?_ (@cmp_Less.main x y)
 kernel_rfl
theorem cmp_Less__d.ok (W : World) : CtrOK Go.Proofs.Tryz.prog W 108 cmp_Less__d.C := pureD_ok (cmp_Less.ok W)
theorem term_Value__d.ok (W : World) : CtrOK Go.Proofs.Tryz.prog W 13 term_Value__d.C := pureD_ok (term_Value.ok W)
theorem regular_Check__d.ok (W : World) : CtrOK Go.Proofs.Tryz.prog W 11 regular_Check__d.C := pureD_ok (regular_Check.ok W)
theorem regular_Has__d.ok (W : World) : CtrOK Go.Proofs.Tryz.prog W 8 regular_Has__d.C := pureD_ok (regular_Has.ok W)
theorem regular_Automaton_finals__d.ok (W : World) : CtrOK Go.Proofs.Tryz.prog W 45 regular_Automaton_finals__d.C := pureD_ok (regular_Automaton_finals.ok W)
theorem regular_set_has__d.ok (W : World) : CtrOK Go.Proofs.Tryz.prog W 21 regular_set_has__d.C := pureD_ok (regular_set_has.ok W)
theorem regular_set_put__d.ok (W : World) : CtrOK Go.Proofs.Tryz.prog W 69 regular_set_put__d.C := memD_ok (regular_set_put.ok W)
theorem term_Copy__d.ok (W : World) : CtrOK Go.Proofs.Tryz.prog W 71 term_Copy__d.C := pureD_ok (term_Copy.ok W)
theorem term_Compare__d.ok (W : World) : CtrOK Go.Proofs.Tryz.prog W 90 term_Compare__d.C := pureD_ok (term_Compare.ok W)
theorem regular_compare__d.ok (W : World) : CtrOK Go.Proofs.Tryz.prog W 58 regular_compare__d.C := pureD_ok (regular_compare.ok W)
theorem math_bits_Len64__i.ok (W : World) : CtrOK Go.Proofs.Tryz.prog W 112 (math_bits_Len64__i.C Go.Proofs.Tryz.prog) := by
 exact inlCF_ok (lookC_ok (fun p hp => by cases hp))
theorem math_bits_Len__i.ok (W : World) : CtrOK Go.Proofs.Tryz.prog W 77 (math_bits_Len__i.C Go.Proofs.Tryz.prog) := by
 exact inlCF_ok (lookC_ok (fun p hp => by
  simp only [List.mem_cons, List.not_mem_nil, or_false] at hp
  subst hp; exact math_bits_Len64__i.ok W))
theorem slices_insertionSortOrdered__i.ok (W : World) : CtrOK Go.Proofs.Tryz.prog W 102 (slices_insertionSortOrdered__i.C Go.Proofs.Tryz.prog) := by
 exact inlCF_ok (lookC_ok (fun p hp => by
  simp only [List.mem_cons, List.not_mem_nil, or_false] at hp
  subst hp; exact cmp_Less__d.ok W))
theorem slices_pdqsortOrdered__i.ok (W : World) : CtrOK Go.Proofs.Tryz.prog W 76 (slices_pdqsortOrdered__i.C Go.Proofs.Tryz.prog) := by
 exact inlCF_ok (lookC_ok (fun p hp => by
  simp only [List.mem_cons, List.not_mem_nil, or_false] at hp
  subst hp; exact slices_insertionSortOrdered__i.ok W))
theorem slices_Sort__i.ok (W : World) : CtrOK Go.Proofs.Tryz.prog W 36 (slices_Sort__i.C Go.Proofs.Tryz.prog) := by
 exact inlCF_ok (lookC_ok (fun p hp => by
  simp only [List.mem_cons, List.not_mem_nil, or_false] at hp
  rcases hp with rfl | rfl
  ·exact slices_pdqsortOrdered__i.ok W
  ·exact math_bits_Len__i.ok W))
theorem slices_Compact__i.ok (W : World) : CtrOK Go.Proofs.Tryz.prog W 80 (slices_Compact__i.C Go.Proofs.Tryz.prog) := by
 exact inlCF_ok (lookC_ok (fun p hp => by cases hp))
theorem regular_ascending__i.ok (W : World) : CtrOK Go.Proofs.Tryz.prog W 39 (regular_ascending__i.C Go.Proofs.Tryz.prog) := by
 exact inlCF_ok (lookC_ok (fun p hp => by
  simp only [List.mem_cons, List.not_mem_nil, or_false] at hp
  rcases hp with rfl | rfl | rfl
  ·exact slices_Sort__i.ok W
  ·exact slices_Concat_79__i.ok W
  ·exact slices_Compact__i.ok W))
set_option maxHeartbeats 8000000 in
theorem regular_ascending__p.main : regular_ascending__p.t := by
 repeat' (first | exact rfl | trivial | decide | (refine And.intro ?_ ?_) | intro _)
theorem regular_ascending__p.ok (W : World) : CtrOK Go.Proofs.Tryz.prog W 39 regular_ascending__p.C := point_ok (regular_ascending__i.ok W) regular_ascending__p.A regular_ascending__p.R (by simp) (Eq.mpr regular_ascending__p.w regular_ascending__p.main)
theorem regular_Star_1__i.ok (W : World) : CtrOK Go.Proofs.Tryz.prog W 37 (regular_Star_1__i.C Go.Proofs.Tryz.prog) := by
 exact inlCF_ok (lookC_ok (fun p hp => by
  simp only [List.mem_cons, List.not_mem_nil, or_false] at hp
  rcases hp with rfl | rfl | rfl | rfl | rfl | rfl | rfl
  ·exact regular_behind__i.ok W
  ·exact regular_ascending__p.ok W
  ·exact regular_plus__p.ok W
  ·exact slices_Concat__i.ok W
  ·exact slices_Collect__i.ok W
  ·exact regular_like__i.ok W
  ·exact slices_AppendSeq__i.ok W))
theorem regular_Automaton_add__i.ok (W : World) : CtrOK Go.Proofs.Tryz.prog W 35 (regular_Automaton_add__i.C Go.Proofs.Tryz.prog) := by
 exact inlCF_ok (lookC_ok (fun p hp => by cases hp))
theorem regular_Exactly_1__i.ok (W : World) : CtrOK Go.Proofs.Tryz.prog W 34 (regular_Exactly_1__i.C Go.Proofs.Tryz.prog) := by
 exact inlCF_ok (lookC_ok (fun p hp => by
  simp only [List.mem_cons, List.not_mem_nil, or_false] at hp
  rcases hp with rfl | rfl
  ·exact regular_Automaton_add__i.ok W
  ·exact slices_Sort__i.ok W))
theorem regular_Edge_good.main (e : Edg) (x : Bts) (ha : (0 ≤ e.dst ∧ e.dst < 400) ∧ (e.kind = 5 → 0 ≤ e.inner ∧ e.inner < 400)) : regular_Edge_good.t e x := by
 obtain ⟨h1, h2⟩ := ha
 refine ⟨h1, fun b hb => ⟨fun h => h2 (by simpa using h.1), ?_⟩⟩
 subst hb
 simp only [Sp.good, ne_eq, decide_not]
theorem regular_Edge_good.ok (W : World) : CtrOK Go.Proofs.Tryz.prog W 68 regular_Edge_good.C := by
 refine funOK (Γ := lookC [(21, regular_set_has.C)]) (lookC_ok (fun p hp => by
  simp only [List.mem_cons, List.not_mem_nil, or_false] at hp
  subst hp; exact regular_set_has.ok W)) (Λ := fun a_ => match a_ with | (e, x) => (fun _ => none)) (Λr := fun a_ => match a_ with | (e, x) => (fun _ => none)) ?_
 intro a ha
 obtain ⟨e, x⟩ := a
 refine Eq.mpr ?_ (@regular_Edge_good.main e x ha)
 kernel_rfl
theorem regular_Edge_good__d.ok (W : World) : CtrOK Go.Proofs.Tryz.prog W 68 regular_Edge_good__d.C := pureD_ok (regular_Edge_good.ok W)
theorem regular_Automaton_trim_1__i.ok (W : World) : CtrOK Go.Proofs.Tryz.prog W 67 (regular_Automaton_trim_1__i.C Go.Proofs.Tryz.prog) := by
 exact inlCF_ok (lookC_ok (fun p hp => by
  simp only [List.mem_cons, List.not_mem_nil, or_false] at hp
  rcases hp with rfl | rfl
  ·exact regular_Edge_good__d.ok W
  ·exact regular_set_put__d.ok W))
theorem regular_Automaton_trim_2__i.ok (W : World) : CtrOK Go.Proofs.Tryz.prog W 70 (regular_Automaton_trim_2__i.C Go.Proofs.Tryz.prog) := by
 exact inlCF_ok (lookC_ok (fun p hp => by
  simp only [List.mem_cons, List.not_mem_nil, or_false] at hp
  rcases hp with rfl | rfl | rfl
  ·exact regular_set_has__d.ok W
  ·exact regular_Edge_good__d.ok W
  ·exact regular_set_put__d.ok W))
theorem term_Equal__i.ok (W : World) : CtrOK Go.Proofs.Tryz.prog W 101 (term_Equal__i.C Go.Proofs.Tryz.prog) := by
 exact inlCF_ok (lookC_ok (fun p hp => by
  simp only [List.mem_cons, List.not_mem_nil, or_false] at hp
  subst hp; exact term_Compare__d.ok W))
theorem regular_same__i.ok (W : World) : CtrOK Go.Proofs.Tryz.prog W 73 (regular_same__i.C Go.Proofs.Tryz.prog) := by
 exact inlCF_ok (lookC_ok (fun p hp => by
  simp only [List.mem_cons, List.not_mem_nil, or_false] at hp
  rcases hp with rfl | rfl
  ·exact regular_compare__d.ok W
  ·exact term_Equal__i.ok W))
theorem regular_Automaton_trim_3__i.ok (W : World) : CtrOK Go.Proofs.Tryz.prog W 72 (regular_Automaton_trim_3__i.C Go.Proofs.Tryz.prog) := by
 exact inlCF_ok (lookC_ok (fun p hp => by
  simp only [List.mem_cons, List.not_mem_nil, or_false] at hp
  subst hp; exact regular_same__i.ok W))
theorem slices_IndexFunc__t3.ok (W : World) : CtrOK Go.Proofs.Tryz.prog W 54 (slices_IndexFunc__t3.C Go.Proofs.Tryz.prog) := by
 exact inlCF_ok (lookC_ok (fun p hp => by
  simp only [List.mem_cons, List.not_mem_nil, or_false] at hp
  subst hp; exact regular_Automaton_trim_3__i.ok W))
theorem slices_ContainsFunc__t3.ok (W : World) : CtrOK Go.Proofs.Tryz.prog W 24 (slices_ContainsFunc__t3.C Go.Proofs.Tryz.prog) := by
 exact inlCF_ok (lookC_ok (fun p hp => by
  simp only [List.mem_cons, List.not_mem_nil, or_false] at hp
  subst hp; exact slices_IndexFunc__t3.ok W))
theorem regular_grow__i.ok (W : World) : CtrOK Go.Proofs.Tryz.prog W 66 (regular_grow__i.C Go.Proofs.Tryz.prog) := by
 exact inlCF_ok (lookC_ok (fun p hp => by
  simp only [List.mem_cons, List.not_mem_nil, or_false] at hp
  rcases hp with rfl | rfl
  ·exact regular_Automaton_trim_1__i.ok W
  ·exact regular_Automaton_trim_2__i.ok W))
theorem regular_Automaton_trim__i.ok (W : World) : CtrOK Go.Proofs.Tryz.prog W 32 (regular_Automaton_trim__i.C Go.Proofs.Tryz.prog) := by
 exact inlCF_ok (lookC_ok (fun p hp => by
  simp only [List.mem_cons, List.not_mem_nil, or_false] at hp
  rcases hp with rfl | rfl | rfl | rfl | rfl | rfl | rfl
  ·exact regular_set_has__d.ok W
  ·exact slices_ContainsFunc__t3.ok W
  ·exact regular_Automaton_finals__d.ok W
  ·exact regular_grow__i.ok W
  ·exact regular_Edge_good__d.ok W
  ·exact regular_set_put__d.ok W
  ·exact term_Copy__d.ok W))
theorem regular_guarded__i.ok (W : World) : CtrOK Go.Proofs.Tryz.prog W 33 (regular_guarded__i.C Go.Proofs.Tryz.prog) :=
 TD.ok (t := 20) (g := 74) (ms := #[]) (lookC_ok fun p hp => by
  simp only [List.mem_cons, List.mem_nil_iff, or_false] at hp
  rcases hp with rfl | rfl | rfl
  ·exact regular_Exactly_1__i.ok W
  ·exact regular_Star_1__i.ok W
  ·exact regular_Automaton_trim__i.ok W) (by kernel_rfl) (by kernel_rfl) (by kernel_rfl) (by decide)
theorem regular_Exactly__i.ok (W : World) : CtrOK Go.Proofs.Tryz.prog W 18 (regular_Exactly__i.C Go.Proofs.Tryz.prog) := by
 exact inlCF_ok (lookC_ok (fun p hp => by
  simp only [List.mem_cons, List.not_mem_nil, or_false] at hp
  rcases hp with rfl | rfl
  ·exact term_Value__d.ok W
  ·exact regular_guarded__i.ok W))
theorem mem_all {α : Type} {p : α → Prop} {l : List α} (h : l.foldr (fun x r => p x ∧ r) True) : ∀ x ∈ l, p x := by
 induction l with
 | nil => intro x hx; cases hx
 | cons a l ih =>
   intro x hx
   rcases List.mem_cons.1 hx with rfl | hx
   ·exact h.1
   ·exact ih h.2 x hx
set_option maxHeartbeats 8000000 in
theorem regular_Exactly__p.main : regular_Exactly__p.t := by
 unfold regular_Exactly__p.t
 repeat' (first | with_reducible refine And.intro ?_ ?_ | with_reducible (refine mem_all ?_) | (unfold Sp.okA; refine mem_all ?_) | with_reducible exact List.cons_ne_nil _ _ | intro _ | with_reducible exact rfl | with_reducible exact inR64 (by decide) | decide | (simp only [inR]; decide) | (unfold Sp.okL; decide) | simp only [List.foldr_cons, List.foldr_nil] | exact rfl)
theorem regular_Exactly__p.ok (W : World) : CtrOK Go.Proofs.Tryz.prog W 18 regular_Exactly__p.C := point_ok (regular_Exactly__i.ok W) regular_Exactly__p.A regular_Exactly__p.R (by simp) (Eq.mpr regular_Exactly__p.w regular_Exactly__p.main)
theorem regular_Star__i.ok (W : World) : CtrOK Go.Proofs.Tryz.prog W 19 (regular_Star__i.C Go.Proofs.Tryz.prog) := by
 exact inlCF_ok (lookC_ok (fun p hp => by
  simp only [List.mem_cons, List.not_mem_nil, or_false] at hp
  rcases hp with rfl | rfl
  ·exact regular_Check__d.ok W
  ·exact regular_guarded__i.ok W))
set_option maxHeartbeats 8000000 in
theorem regular_Star__p.main : regular_Star__p.t := by
 unfold regular_Star__p.t
 repeat' (first | with_reducible refine And.intro ?_ ?_ | with_reducible (refine mem_all ?_) | (unfold Sp.okA; refine mem_all ?_) | with_reducible exact List.cons_ne_nil _ _ | intro _ | with_reducible exact rfl | with_reducible exact inR64 (by decide) | decide | (simp only [inR]; decide) | (unfold Sp.okL; decide) | simp only [List.foldr_cons, List.foldr_nil] | exact rfl)
theorem regular_Star__p.ok (W : World) : CtrOK Go.Proofs.Tryz.prog W 19 regular_Star__p.C := point_ok (regular_Star__i.ok W) regular_Star__p.A regular_Star__p.R (by simp) (Eq.mpr regular_Star__p.w regular_Star__p.main)
theorem regular_Exactly__d.ok (W : World) : CtrOK Go.Proofs.Tryz.prog W 18 regular_Exactly__d.C := pureD_ok (regular_Exactly__p.ok W)
theorem regular_Star__d.ok (W : World) : CtrOK Go.Proofs.Tryz.prog W 19 regular_Star__d.C := pureD_ok (regular_Star__p.ok W)
theorem l23_awake__i.ok (W : World) : CtrOK Go.Proofs.Tryz.prog W 7 (l23_awake__i.C Go.Proofs.Tryz.prog) := by
 exact inlCF_ok (lookC_ok (fun p hp => by
  simp only [List.mem_cons, List.not_mem_nil, or_false] at hp
  rcases hp with rfl | rfl | rfl
  ·exact regular_Has__d.ok W
  ·exact regular_Exactly__d.ok W
  ·exact regular_Star__d.ok W))
set_option maxHeartbeats 8000000 in
theorem l23_awake.main : l23_awake.t := by
 unfold l23_awake.t
 repeat' (first | with_reducible refine And.intro ?_ ?_ | with_reducible (refine mem_all ?_) | (unfold Sp.okA; refine mem_all ?_) | with_reducible exact List.cons_ne_nil _ _ | intro _ | with_reducible exact rfl | with_reducible exact inR64 (by decide) | decide | (simp only [inR]; decide) | (unfold Sp.okL; decide) | simp only [List.foldr_cons, List.foldr_nil] | exact rfl)
theorem l23_awake.ok (W : World) : CtrOK Go.Proofs.Tryz.prog W 7 l23_awake.C := point_ok (l23_awake__i.ok W) l23_awake.A l23_awake.R (by simp) (Eq.mpr l23_awake.w l23_awake.main)
end Go.AL
namespace Go.AL
set_option linter.unusedVariables false
end Go.AL
namespace Sp
open Go.AL
def sml23 (e : Edg) : Bool := !(((decide (6 < (e.exc.length : Int)) && decide ((e.exc.length : Int) ≤ 100)) || decide (102 < (e.exc.length : Int))) || !small e.exc 200 || !small [e.sym] 50)
def big23 (a : Aut) (n : Int) : Bool := (decide (n < (a.edges.length : Int)) && (decide ((a.edges.length : Int) ≤ 4000) || decide (4002 < (a.edges.length : Int)))) || (decide (n < a.states) && decide (a.states ≤ 400)) || (decide (n < (a.final.length : Int)) && decide ((a.final.length : Int) ≤ 400)) || decide (402 < (a.final.length : Int))
def small23 (a : Aut) (n : Int) : Bool := !big23 a n && a.edges.all sml23
end Sp
namespace Go.AL
def l23_Small.L0 : LD := { cs := [], cts := [], pts := [(2, (.loc 0 0))], vs := [5], os := [(0, .plain, [none, none, none, none])], vts := [.int .i64, .int .i64, .int .i64, .lst (.int .i64), .lst (.nm 6)], own := [false, false, false, false, false], ro := [0, 1, 2, 7, 8, 9, 10, 11, 12, 13, 14, 15, 16, 17, 18, 19, 20, 21, 22, 23, 24, 25, 26, 27, 28, 29, 30, 31, 32, 33, 34, 35, 36, 37, 38, 39, 40, 41, 42, 43, 44, 45, 46, 47, 48, 49, 50, 51, 52, 53], nx := 100 }
def l23_Small.Λ (a : Aut) (m : Int) : Nat → Option (Loop (ElT [.bool])) := fun id =>
 if id = 0 then some (mkLoop l23_Small.L0
  (fun (c_ : Unit) (s_ : Int × Int × Int × (List Int) × (List Edg)) => match c_, s_ with | (), (i, n, st, fin, ed) => 0 ≤ i ∧ i ≤ ed.length ∧ n = a.states ∧ st = a.start ∧ fin = a.final ∧ ed = a.edges)
  (fun (c_ : Unit) (s_ : Int × Int × Int × (List Int) × (List Edg)) => match c_, s_ with | (), (i, n, st, fin, ed) => (ed.length - i : Int).toNat)
  (fun (c_ : Unit) (s_ : Int × Int × Int × (List Int) × (List Edg)) => match c_, s_ with | (), (i, n, st, fin, ed) => if (a.edges.drop i.toNat).all Sp.sml23 then .brk (a.edges.length, n, st, fin, ed) else .ret false) [] true) else
 none
def l23_Small.C : Ctr := pureCtr [.nm 7, .int .i64] [.bool] (some (fun (a_ : Aut × Int) => match a_ with | (a, m) => -1 ≤ m ∧ m ≤ 1000000)) (fun (a_ : Aut × Int) => match a_ with | (a, m) => (Sp.small23 a m))
def l23_given.L0 : LD := { cs := [], cts := [], pts := [(1, (.loc 0 0)), (3, (.loc 2 0))], vs := [4], os := [(0, .plain, [none, none, none, none]), (2, .plain, [none, none, none, none])], vts := [.int .i64, .int .i64, .int .i64, .lst (.int .i64), .lst (.nm 6), .int .i64, .int .i64, .lst (.int .i64), .lst (.nm 6)], own := [false, false, false, false, false, false, false, false, true], ro := [0, 1, 2, 6, 7, 8, 9, 10, 11, 12, 3], nx := 100 }
def l23_given.Λ (a : Aut) : Nat → Option (Loop (ElT [.nm 7])) := fun id =>
 if id = 0 then some (mkLoop l23_given.L0
  (fun (c_ : Unit) (s_ : Int × Int × Int × (List Int) × (List Edg) × Int × Int × (List Int) × (List Edg)) => match c_, s_ with | (), (i, n, st, fin, ed, n1, st1, fin1, ed1) => 0 ≤ i ∧ i ≤ ed.length ∧ n = a.states ∧ st = a.start ∧ fin = a.final ∧ ed = a.edges ∧ n1 = a.states ∧ st1 = a.start ∧ fin1 = a.final ∧ ed1 = a.edges.take i.toNat)
  (fun (c_ : Unit) (s_ : Int × Int × Int × (List Int) × (List Edg) × Int × Int × (List Int) × (List Edg)) => match c_, s_ with | (), (i, n, st, fin, ed, n1, st1, fin1, ed1) => (ed.length - i : Int).toNat)
  (fun (c_ : Unit) (s_ : Int × Int × Int × (List Int) × (List Edg) × Int × Int × (List Int) × (List Edg)) => match c_, s_ with | (), (i, n, st, fin, ed, n1, st1, fin1, ed1) => .brk (a.edges.length, a.states, a.start, a.final, a.edges, a.states, a.start, a.final, a.edges)) [] false) else
 none
def l23_given.C : Ctr := pureCtr [.nm 7] [.nm 7] (some (fun (a : Aut) => a.edges.length ≤ 4000000)) (fun (a : Aut) => (a))
def l23_RegularHas.C : Ctr := pureCtr [.nm 7, .lst (.nm 0)] [.bool] (some (fun (a_ : Aut × (List Tm)) => match a_ with | (a, v) => Sp.okA a ∧ Sp.okL v ∧ a.edges.length ≤ 4000000)) (fun (a_ : Aut × (List Tm)) => match a_ with | (a, v) => (true))
end Go.AL
namespace Go.AL
set_option linter.unusedVariables false
set_option maxRecDepth 10000
def l23_Small.l0 (a : Aut) : Prop :=
 (∀ i : Int, (∀ i1 : Int, (∀ i2 : Int, (∀ l : (List Int), (∀ l1 : (List Edg), (((0≤i)∧((i≤(↑(List.length l1) : Int))∧((i1=(Aut.states a))∧((i2=(Aut.start a))∧((l=(Aut.final a))∧(l1=(Aut.edges a)))))))→(((List.length l1) < 9223372036854775808)→(ifB (decide (i < (↑(List.length l1) : Int))) (((0≤i)∧(i < (↑(List.length l1) : Int)))∧(((List.length (Edg.exc (nth default l1 i))) < 9223372036854775808)→((((((decide (6 < (↑(List.length (Edg.exc (nth default l1 i))) : Int))) && (decide ((↑(List.length (Edg.exc (nth default l1 i))) : Int)≤100))) || (decide (102 < (↑(List.length (Edg.exc (nth default l1 i))) : Int))))=false)→((((-1) : Int)≤200)∧((200 : Int)≤1000000)))∧(((((((decide (6 < (↑(List.length (Edg.exc (nth default l1 i))) : Int))) && (decide ((↑(List.length (Edg.exc (nth default l1 i))) : Int)≤100))) || (decide (102 < (↑(List.length (Edg.exc (nth default l1 i))) : Int)))) || (!(Sp.small (Edg.exc (nth default l1 i)) 200)))=false)→((((-1) : Int)≤50)∧((50 : Int)≤1000000)))∧(ifB (((((decide (6 < (↑(List.length (Edg.exc (nth default l1 i))) : Int))) && (decide ((↑(List.length (Edg.exc (nth default l1 i))) : Int)≤100))) || (decide (102 < (↑(List.length (Edg.exc (nth default l1 i))) : Int)))) || (!(Sp.small (Edg.exc (nth default l1 i)) 200))) || (!(Sp.small ((Tm.mk (Tm.kind (Edg.sym (nth default l1 i))) (Tm.text (Edg.sym (nth default l1 i))) (Tm.kids (Edg.sym (nth default l1 i)))) :: ([] : (List Tm))) 50))) (((ite ((List.all (List.drop (Int.toNat i) (Aut.edges a)) Sp.sml23)=true) (LOut.brk ((↑(List.length (Aut.edges a)) : Int), (i1, (i2, (l, l1))))) (LOut.ret false)) : (LOut (Int × (Int × (Int × ((List Int) × (List Edg))))) Bool))=(LOut.ret false)) ((inR .i64 (i + 1))∧(((0≤(i + 1))∧(((i + 1)≤(↑(List.length l1) : Int))∧((i1=(Aut.states a))∧((i2=(Aut.start a))∧((l=(Aut.final a))∧(l1=(Aut.edges a)))))))∧(((Int.toNat ((↑(List.length l1) : Int) - (i + 1))) < (Int.toNat ((↑(List.length l1) : Int) - i)))∧(((ite ((List.all (List.drop (Int.toNat (i + 1)) (Aut.edges a)) Sp.sml23)=true) (LOut.brk ((↑(List.length (Aut.edges a)) : Int), (i1, (i2, (l, l1))))) (LOut.ret false)) : (LOut (Int × (Int × (Int × ((List Int) × (List Edg))))) Bool))=(ite ((List.all (List.drop (Int.toNat i) (Aut.edges a)) Sp.sml23)=true) (LOut.brk ((↑(List.length (Aut.edges a)) : Int), (i1, (i2, (l, l1))))) (LOut.ret false))))))))))) (((ite ((List.all (List.drop (Int.toNat i) (Aut.edges a)) Sp.sml23)=true) (LOut.brk ((↑(List.length (Aut.edges a)) : Int), (i1, (i2, (l, l1))))) (LOut.ret false)) : (LOut (Int × (Int × (Int × ((List Int) × (List Edg))))) Bool))=(LOut.brk (i, (i1, (i2, (l, l1))))))))))))))
def l23_Small.t (a : Aut) (m : Int) : Prop :=
 (((List.length (Aut.edges a)) < 9223372036854775808)→(ifB (((((decide (m < (↑(List.length (Aut.edges a)) : Int))) && ((decide ((↑(List.length (Aut.edges a)) : Int)≤4000)) || (decide (4002 < (↑(List.length (Aut.edges a)) : Int))))) || ((decide (m < (Aut.states a))) && (decide ((Aut.states a)≤400)))) || ((decide (m < (↑(List.length (Aut.final a)) : Int))) && (decide ((↑(List.length (Aut.final a)) : Int)≤400)))) || (decide (402 < (↑(List.length (Aut.final a)) : Int)))) ((Sp.small23 a m)=false) ((((0 : Int)≤0)∧((0≤(↑(List.length (Aut.edges a)) : Int))∧(((Aut.states a)=(Aut.states a))∧(((Aut.start a)=(Aut.start a))∧(((Aut.final a)=(Aut.final a))∧((Aut.edges a)=(Aut.edges a)))))))∧((l23_Small.l0 a)∧((∀ i : Int, (∀ i1 : Int, (∀ i2 : Int, (∀ l : (List Int), (∀ l1 : (List Edg), ((((ite ((List.all (List.drop (Int.toNat 0) (Aut.edges a)) Sp.sml23)=true) (LOut.brk ((↑(List.length (Aut.edges a)) : Int), ((Aut.states a), ((Aut.start a), ((Aut.final a), (Aut.edges a)))))) (LOut.ret false)) : (LOut (Int × (Int × (Int × ((List Int) × (List Edg))))) Bool))=(LOut.brk (i, (i1, (i2, (l, l1))))))→((Sp.small23 a m)=true)))))))∧(∀ b : Bool, ((((ite ((List.all (List.drop (Int.toNat 0) (Aut.edges a)) Sp.sml23)=true) (LOut.brk ((↑(List.length (Aut.edges a)) : Int), ((Aut.states a), ((Aut.start a), ((Aut.final a), (Aut.edges a)))))) (LOut.ret false)) : (LOut (Int × (Int × (Int × ((List Int) × (List Edg))))) Bool))=(LOut.ret b))→((Sp.small23 a m)=b))))))))
def l23_given.l0 (a : Aut) : Prop :=
 (∀ i : Int, (∀ i1 : Int, (∀ i2 : Int, (∀ l : (List Int), (∀ l1 : (List Edg), (∀ i3 : Int, (∀ i4 : Int, (∀ l2 : (List Int), (∀ l3 : (List Edg), (((0≤i)∧((i≤(↑(List.length l1) : Int))∧((i1=(Aut.states a))∧((i2=(Aut.start a))∧((l=(Aut.final a))∧((l1=(Aut.edges a))∧((i3=(Aut.states a))∧((i4=(Aut.start a))∧((l2=(Aut.final a))∧(l3=(List.take (Int.toNat i) (Aut.edges a))))))))))))→(((List.length l1) < 9223372036854775808)→(ifB (decide (i < (↑(List.length l1) : Int))) (((0≤i)∧(i < (↑(List.length l1) : Int)))∧((((List.length l3) + (List.length ((Edg.mk (Edg.src (nth default l1 i)) (Edg.dst (nth default l1 i)) (Edg.kind (nth default l1 i)) (Tm.mk (Tm.kind (Edg.sym (nth default l1 i))) (Tm.text (Edg.sym (nth default l1 i))) (Tm.kids (Edg.sym (nth default l1 i)))) (Edg.exc (nth default l1 i)) (Edg.inner (nth default l1 i))) :: ([] : (List Edg)))))≤8589934592)∧((inR .i64 (i + 1))∧(((0≤(i + 1))∧(((i + 1)≤(↑(List.length l1) : Int))∧((i1=(Aut.states a))∧((i2=(Aut.start a))∧((l=(Aut.final a))∧((l1=(Aut.edges a))∧((i3=(Aut.states a))∧((i4=(Aut.start a))∧((l2=(Aut.final a))∧((l3 ++ ((Edg.mk (Edg.src (nth default l1 i)) (Edg.dst (nth default l1 i)) (Edg.kind (nth default l1 i)) (Tm.mk (Tm.kind (Edg.sym (nth default l1 i))) (Tm.text (Edg.sym (nth default l1 i))) (Tm.kids (Edg.sym (nth default l1 i)))) (Edg.exc (nth default l1 i)) (Edg.inner (nth default l1 i))) :: ([] : (List Edg))))=(List.take (Int.toNat (i + 1)) (Aut.edges a))))))))))))∧(((Int.toNat ((↑(List.length l1) : Int) - (i + 1))) < (Int.toNat ((↑(List.length l1) : Int) - i)))∧(((LOut.brk ((↑(List.length (Aut.edges a)) : Int), ((Aut.states a), ((Aut.start a), ((Aut.final a), ((Aut.edges a), ((Aut.states a), ((Aut.start a), ((Aut.final a), (Aut.edges a)))))))))) : (LOut (Int × (Int × (Int × ((List Int) × ((List Edg) × (Int × (Int × ((List Int) × (List Edg))))))))) Aut))=(LOut.brk ((↑(List.length (Aut.edges a)) : Int), ((Aut.states a), ((Aut.start a), ((Aut.final a), ((Aut.edges a), ((Aut.states a), ((Aut.start a), ((Aut.final a), (Aut.edges a)))))))))))))))) (((LOut.brk ((↑(List.length (Aut.edges a)) : Int), ((Aut.states a), ((Aut.start a), ((Aut.final a), ((Aut.edges a), ((Aut.states a), ((Aut.start a), ((Aut.final a), (Aut.edges a)))))))))) : (LOut (Int × (Int × (Int × ((List Int) × ((List Edg) × (Int × (Int × ((List Int) × (List Edg))))))))) Aut))=(LOut.brk (i, (i1, (i2, (l, (l1, (i3, (i4, (l2, l3))))))))))))))))))))))
def l23_given.t (a : Aut) : Prop :=
 ((((0 : Int)≤0)∧((0≤(↑(List.length (Aut.edges a)) : Int))∧(((Aut.states a)=(Aut.states a))∧(((Aut.start a)=(Aut.start a))∧(((Aut.final a)=(Aut.final a))∧(((Aut.edges a)=(Aut.edges a))∧(((Aut.states a)=(Aut.states a))∧(((Aut.start a)=(Aut.start a))∧(((Aut.final a)=(Aut.final a))∧(([] : (List Edg))=(List.take (Int.toNat 0) (Aut.edges a))))))))))))∧((l23_given.l0 a)∧(∀ i : Int, (∀ i1 : Int, (∀ i2 : Int, (∀ l : (List Int), (∀ l1 : (List Edg), (∀ i3 : Int, (∀ i4 : Int, (∀ l2 : (List Int), (∀ l3 : (List Edg), ((((LOut.brk ((↑(List.length (Aut.edges a)) : Int), ((Aut.states a), ((Aut.start a), ((Aut.final a), ((Aut.edges a), ((Aut.states a), ((Aut.start a), ((Aut.final a), (Aut.edges a)))))))))) : (LOut (Int × (Int × (Int × ((List Int) × ((List Edg) × (Int × (Int × ((List Int) × (List Edg))))))))) Aut))=(LOut.brk (i, (i1, (i2, (l, (l1, (i3, (i4, (l2, l3))))))))))→(a=(Aut.mk i3 i4 l2 l3))))))))))))))
def l23_RegularHas.t (a : Aut) (v : (List Tm)) : Prop :=
 (((((-1) : Int)≤60)∧((60 : Int)≤1000000))∧(∀ b : Bool, (((Sp.small23 (Aut.mk (Aut.states a) (Aut.start a) (Aut.final a) (Aut.edges a)) 60)=b)→((((!b)=false)→((((-1) : Int)≤200)∧((200 : Int)≤1000000)))∧(ifB ((!b) || (!(Sp.small v 200))) ((()=())∧(∀ b1 : Bool, ((true=b1)→(true=b1)))) (((List.length (Aut.edges a))≤4000000)∧(∀ x : Aut, (((Aut.mk (Aut.states a) (Aut.start a) (Aut.final a) (Aut.edges a))=x)→(((Sp.okA x)∧(Sp.okL v))∧(∀ b1 : Bool, (∀ i : Int, (((ite ((Sp.rcheck x)=0) (ite ((Sp.wrong v 4)=0) ((Sp.bhas (Sp.baccL x v) (Aut.start x)), 0) (false, (Sp.wrong v 4))) (false, (Sp.rcheck x)))=(b1, i))→(((Sp.okA (Aut.mk (Aut.states a) (Aut.start a) (Aut.final a) (Aut.edges a)))∧(Sp.okL v))∧(∀ b2 : Bool, (∀ i1 : Int, (((ite ((Sp.rcheck (Aut.mk (Aut.states a) (Aut.start a) (Aut.final a) (Aut.edges a)))=0) (ite ((Sp.wrong v 4)=0) ((Sp.nb (Sp.accL (Aut.mk (Aut.states a) (Aut.start a) (Aut.final a) (Aut.edges a)) v) (Aut.start a)), 0) (false, (Sp.wrong v 4))) (false, (Sp.rcheck (Aut.mk (Aut.states a) (Aut.start a) (Aut.final a) (Aut.edges a)))))=(b2, i1))→(((((BEq.beq b1 b2) && (decide (i=i1)))=true)→((List.length (Aut.edges a))≤4000000))∧(((((BEq.beq b1 b2) && (decide (i=i1)))=true)→(Sp.okA (Aut.mk (Aut.states a) (Aut.start a) (Aut.final a) (Aut.edges a))))∧(((((BEq.beq b1 b2) && (decide (i=i1)))=true)→(∀ x1 : Edg, ((Membership.mem (Aut.edges a) x1)→((Sp.okL ((Edg.sym x1) :: ([] : (List Tm))))∧(∀ x2 : Tm, ((Membership.mem (Edg.exc x1) x2)→(Sp.okL (x2 :: ([] : (List Tm))))))))))∧((((((BEq.beq b1 b2) && (decide (i=i1))) && (decide ((Sp.rcheck (Aut.mk (Aut.states a) (Aut.start a) (Aut.final a) (Aut.edges a)))=(Sp.rcheck (Aut.mk (Aut.states a) (Aut.start a) (Aut.final a) (Aut.edges a))))))=true)→(()=()))∧(true=((((BEq.beq b1 b2) && (decide (i=i1))) && (decide ((Sp.rcheck (Aut.mk (Aut.states a) (Aut.start a) (Aut.final a) (Aut.edges a)))=(Sp.rcheck (Aut.mk (Aut.states a) (Aut.start a) (Aut.final a) (Aut.edges a)))))) && true))))))))))))))))))))))
end Go.AL
namespace Go.AL
set_option linter.unusedVariables false
set_option linter.unusedSimpArgs false
set_option maxRecDepth 10000
attribute [local irreducible] wpF wpFX wpM wpFM
def Sp.okW (x : Bts) : Prop := ∀ i : Int, 0 ≤ i → i < 7 → 0 ≤ Sp.bword x i ∧ Sp.bword x i < 18446744073709551616
theorem Sp.bword_set (x : Bts) (j v i : Int) (h0 : 0 ≤ i) (h7 : i < 7) : Sp.bword (Sp.bset x j v) i = if i = j then v else Sp.bword x i := by
 have h : i = 0 ∨ i = 1 ∨ i = 2 ∨ i = 3 ∨ i = 4 ∨ i = 5 ∨ i = 6 := by omega
 rcases h with rfl | rfl | rfl | rfl | rfl | rfl | rfl <;> simp [Sp.bset, Sp.bword, nth, eq_comm]
theorem Sp.okW_bz : Sp.okW Sp.bz := by
 intro i h0 h7
 have h : i = 0 ∨ i = 1 ∨ i = 2 ∨ i = 3 ∨ i = 4 ∨ i = 5 ∨ i = 6 := by omega
 rcases h with rfl | rfl | rfl | rfl | rfl | rfl | rfl <;> simp [Sp.bz, Sp.bword, nth]
theorem Sp.idx64 {n : Int} (h0 : 0 ≤ n) (h : n < 448) : (0 ≤ n.tdiv 64 ∧ n.tdiv 64 < 7) ∧ n.tdiv 64 = n / 64 ∧ min (n.tmod 64).toNat 64 = (n % 64).toNat ∧ (n % 64).toNat < 64 := by
 rw [Int.tdiv_eq_ediv_of_nonneg h0, Int.tmod_eq_emod_of_nonneg h0]
 refine ⟨⟨?_, ?_⟩, rfl, ?_, ?_⟩ <;> omega
theorem Sp.bhas_eq {x : Bts} (hx : Sp.okW x) {n : Int} (h0 : 0 ≤ n) (h : n < 448) : Sp.bhas x n = (Sp.bword x (n / 64)).toNat.testBit (n % 64).toNat := by
 obtain ⟨h1, h2, h3, h4⟩ := Sp.idx64 h0 h
 obtain ⟨w0, w1⟩ := hx _ h1.1 h1.2
 unfold Sp.bhas
 rw [h3]
 rw [h2] at w0 w1 ⊢
 obtain ⟨w, hw⟩ := Int.eq_ofNat_of_zero_le w0
 rw [hw] at w1 ⊢
 generalize (n % 64).toNat = k at h4 ⊢
 have e1 : (w : Int).fdiv (2 ^ k) = ((w / 2 ^ k : Nat) : Int) := by
  rw [Int.fdiv_eq_ediv_of_nonneg _ (Int.le_of_lt (Int.pow_pos (by omega)))]
  push_cast; rfl
 rw [e1]
 have hlt : w / 2 ^ k < 18446744073709551616 := Nat.lt_of_le_of_lt (Nat.div_le_self _ _) (by omega)
 have e2 := Go.u64_and_nat (w / 2 ^ k) 1 hlt (by omega)
 rw [show (1 : Int) = ((1 : Nat) : Int) from rfl, e2, Int.toNat_natCast, Nat.testBit_eq_decide_div_mod_eq, Nat.and_one_is_mod]
 simp only [Int.ofNat_inj]
theorem Sp.bor_eq {x : Bts} (hx : Sp.okW x) {n : Int} (h0 : 0 ≤ n) (h : n < 448) : Sp.bor x n = (((Sp.bword x (n / 64)).toNat ||| 2 ^ (n % 64).toNat : Nat) : Int) := by
 obtain ⟨h1, h2, h3, h4⟩ := Sp.idx64 h0 h
 obtain ⟨w0, w1⟩ := hx _ h1.1 h1.2
 unfold Sp.bor
 rw [h3]
 rw [h2] at w0 w1 ⊢
 obtain ⟨w, hw⟩ := Int.eq_ofNat_of_zero_le w0
 rw [hw] at w1 ⊢
 generalize (n % 64).toNat = k at h4 ⊢
 have hk : 2 ^ k < 18446744073709551616 := by
  have := Nat.pow_lt_pow_right (a := 2) (by omega) h4
  simpa using this
 have e1 : Go.IntKind.u64.wrap (1 * 2 ^ k) = ((2 ^ k : Nat) : Int) := by
  simp only [Go.IntKind.wrap, Go.IntKind.bits, Go.IntKind.signed, Bool.false_and, Bool.false_eq_true, if_false, Int.one_mul]
  have : ((2 : Int) ^ k) = ((2 ^ k : Nat) : Int) := by push_cast; rfl
  rw [this]
  refine Int.emod_eq_of_lt (Int.natCast_nonneg _) ?_
  have : ((2 ^ k : Nat) : Int) < ((18446744073709551616 : Nat) : Int) := Int.ofNat_lt.2 hk
  simpa using this
 rw [e1, Go.u64_or_nat w (2 ^ k) (by omega) hk, Int.toNat_natCast]
theorem Sp.okW_put {x : Bts} (hx : Sp.okW x) {n : Int} (h0 : 0 ≤ n) (h : n < 448) : Sp.okW (Sp.bput x n) := by
 intro i hi0 hi7
 rw [Sp.bput, Sp.bword_set _ _ _ _ hi0 hi7]
 split
 ·rw [Sp.bor_eq hx h0 h]
  obtain ⟨h1, h2, h3, h4⟩ := Sp.idx64 h0 h
  obtain ⟨w0, w1⟩ := hx _ h1.1 h1.2
  rw [h2] at w0 w1
  refine ⟨by omega, ?_⟩
  have hk : 2 ^ (n % 64).toNat < 2 ^ 64 := Nat.pow_lt_pow_right (by omega) h4
  have := Nat.or_lt_two_pow (x := (Sp.bword x (n / 64)).toNat) (y := 2 ^ (n % 64).toNat) (n := 64) (by omega) hk
  omega
 ·exact hx i hi0 hi7
theorem Sp.bhas_put {x : Bts} (hx : Sp.okW x) {n m : Int} (h0 : 0 ≤ n) (h : n < 448) (g0 : 0 ≤ m) (g : m < 448) : Sp.bhas (Sp.bput x n) m = (decide (m = n) || Sp.bhas x m) := by
 rw [Sp.bhas_eq (Sp.okW_put hx h0 h) g0 g, Sp.bhas_eq hx g0 g, Sp.bput]
 obtain ⟨h1, h2, h3, h4⟩ := Sp.idx64 h0 h
 obtain ⟨g1, g2, g3, g4⟩ := Sp.idx64 g0 g
 rw [h2, Sp.bword_set _ _ _ _ (by omega) (by omega)]
 split
 ·rename_i e
  rw [Sp.bor_eq hx h0 h, Int.toNat_natCast, Nat.testBit_or, Nat.testBit_two_pow, ← e, Bool.or_comm]
  congr 1
  by_cases hm : m = n
  ·subst hm; simp
  ·simp only [hm, decide_false, decide_eq_false_iff_not]
   intro h; apply hm; omega
 ·rename_i e
  have : ¬ m = n := fun h => e (by rw [h])
  simp [this]
theorem Sp.bhas_bz {m : Int} (g0 : 0 ≤ m) (g : m < 448) : Sp.bhas Sp.bz m = false := by
 rw [Sp.bhas_eq Sp.okW_bz g0 g]
 have : Sp.bword Sp.bz (m / 64) = 0 := by
  have h : m / 64 = 0 ∨ m / 64 = 1 ∨ m / 64 = 2 ∨ m / 64 = 3 ∨ m / 64 = 4 ∨ m / 64 = 5 ∨ m / 64 = 6 := by omega
  rcases h with h | h | h | h | h | h | h <;> rw [h] <;> simp [Sp.bz, Sp.bword, nth]
 rw [this]; simp
def Sp.bsim (N : Nat) (x : Bts) (s : List Bool) : Prop := Sp.okW x ∧ s.length = N ∧ ∀ n : Int, 0 ≤ n → n < N → Sp.bhas x n = Sp.nb s n
theorem Sp.nb_set {s : List Bool} {i n : Int} (h0 : 0 ≤ i) (h : i < s.length) (g0 : 0 ≤ n) (g : n < s.length) : Sp.nb (Sp.setB s i) n = (decide (n = i) || Sp.nb s n) := by
 unfold Sp.nb Sp.setB nth
 obtain ⟨i, rfl⟩ := Int.eq_ofNat_of_zero_le h0
 obtain ⟨n, rfl⟩ := Int.eq_ofNat_of_zero_le g0
 simp only [Int.toNat_natCast, List.getD_eq_getElem?_getD, List.getElem?_set]
 by_cases hn : i = n
 ·subst hn
  have : i < s.length := by omega
  simp [this]
 ·have : ¬ ((n : Int) = i) := by omega
  simp [hn, this]
theorem Sp.bsim_put {N : Nat} (hN : N ≤ 400) {x : Bts} {s : List Bool} (h : Sp.bsim N x s) {i : Int} (h0 : 0 ≤ i) (hi : i < N) : Sp.bsim N (Sp.bput x i) (Sp.setB s i) := by
 obtain ⟨h1, h2, h3⟩ := h
 refine ⟨Sp.okW_put h1 h0 (by omega), by simp [Sp.setB_len, h2], fun n g0 g => ?_⟩
 rw [Sp.bhas_put h1 h0 (by omega) g0 (by omega), Sp.nb_set h0 (by omega) g0 (by omega), h3 n g0 g]
theorem Sp.bsim_bz {N : Nat} (hN : N ≤ 400) : Sp.bsim N Sp.bz (List.replicate N false) := by
 refine ⟨Sp.okW_bz, by simp, fun n g0 g => ?_⟩
 rw [Sp.bhas_bz g0 (by omega)]
 unfold Sp.nb nth
 simp only [List.getD_eq_getElem?_getD, List.getElem?_replicate]
 split <;> rfl
theorem Sp.bsim_fin {N : Nat} (hN : N ≤ 400) : ∀ (l : List Int) (x : Bts) (s : List Bool), (∀ f ∈ l, 0 ≤ f ∧ f < N) → Sp.bsim N x s → Sp.bsim N (Sp.bfin l x) (Sp.finB l s)
 | [], x, s, _, h => h
 | f :: l, x, s, hl, h => Sp.bsim_fin hN l _ _ (fun g hg => hl g (by simp [hg])) (Sp.bsim_put hN h (hl f (by simp)).1 (hl f (by simp)).2)
theorem Sp.bsim_step {N : Nat} (hN : N ≤ 400) (a : Aut) {f g : Edg → Bool} {x : Bts} {s : List Bool} (h : Sp.bsim N x s) : ∀ (l : List Edg) (y : Bts) (o : List Bool), (∀ e ∈ l, (0 ≤ e.src ∧ e.src < N) ∧ (0 ≤ e.dst ∧ e.dst < N) ∧ f e = g e) → Sp.bsim N y o → Sp.bsim N (Sp.bstep f x l y) (Sp.stepB a g s l o)
 | [], y, o, _, k => k
 | e :: l, y, o, hl, k => by
   obtain ⟨h1, h2, h3⟩ := hl e (by simp)
   rw [Sp.bstep, Sp.stepB, h3, h.2.2 e.dst h2.1 h2.2]
   refine Sp.bsim_step hN a h l _ _ (fun e' he' => hl e' (by simp [he'])) ?_
   split
   ·exact Sp.bsim_put hN k h1.1 h1.2
   ·exact k
mutual
theorem Sp.bsim_T (a : Aut) (h400 : a.states ≤ 400) (hf : ∀ f ∈ a.final, 0 ≤ f ∧ f < a.states.toNat) (he : ∀ e ∈ a.edges, (0 ≤ e.src ∧ e.src < a.states.toNat) ∧ (0 ≤ e.dst ∧ e.dst < a.states.toNat) ∧ (e.kind = 5 → 0 ≤ e.inner ∧ e.inner < a.states.toNat)) :
  ∀ (t : Tm) (x : Bts) (s : List Bool), Sp.bsim a.states.toNat x s → Sp.bsim a.states.toNat (Sp.baccT a t x) (Sp.accS a t s)
 | .mk k y ks, x, s, h => by
   have hL := Sp.bsim_L a h400 hf he ks
   have hN : a.states.toNat ≤ 400 := by omega
   rw [Sp.baccT, Sp.accS]
   split
   ·refine Sp.bsim_step hN a h _ _ _ (fun e hm => ⟨(he e hm).1, (he e hm).2.1, ?_⟩) (Sp.bsim_bz hN)
    unfold Sp.inn1
    by_cases hk : e.kind = 5
    ·rw [hL.2.2 _ ((he e hm).2.2 hk).1 ((he e hm).2.2 hk).2]
    ·simp [hk]
   ·exact Sp.bsim_step hN a h _ _ _ (fun e hm => ⟨(he e hm).1, (he e hm).2.1, rfl⟩) (Sp.bsim_bz hN)
theorem Sp.bsim_L (a : Aut) (h400 : a.states ≤ 400) (hf : ∀ f ∈ a.final, 0 ≤ f ∧ f < a.states.toNat) (he : ∀ e ∈ a.edges, (0 ≤ e.src ∧ e.src < a.states.toNat) ∧ (0 ≤ e.dst ∧ e.dst < a.states.toNat) ∧ (e.kind = 5 → 0 ≤ e.inner ∧ e.inner < a.states.toNat)) :
  ∀ l : List Tm, Sp.bsim a.states.toNat (Sp.baccL a l) (Sp.accL a l)
 | [] => by
   rw [Sp.baccL, Sp.accL]
   exact Sp.bsim_fin (by omega) _ _ _ hf (Sp.bsim_bz (by omega))
 | t :: l => by
   rw [Sp.baccL, Sp.accL]
   exact Sp.bsim_T a h400 hf he t _ _ (Sp.bsim_L a h400 hf he l)
end
theorem Sp.has_eq {a : Aut} (h : Sp.rcheck a = 0) (v : List Tm) : Sp.bhas (Sp.baccL a v) a.start = Sp.nb (Sp.accL a v) a.start := by
 obtain ⟨c1, c2, c3, c4, c5, c6, c7⟩ := Sp.rcheck_ok h
 refine (Sp.bsim_L a c1 (fun f hf => ?_) (fun e he => ?_) v).2.2 _ c3.1 (by omega)
 ·have := c4 f hf; omega
 ·have := c7 e he
  simp only [Sp.rright, Sp.rstate, Bool.and_eq_true, decide_eq_true_eq] at this
  obtain ⟨⟨⟨⟨⟨⟨⟨h1, h2⟩, h3⟩, h4⟩, h5⟩, h6⟩, h7⟩, h8⟩ := this
  refine ⟨by omega, by omega, fun hk => ?_⟩
  rw [if_pos hk] at h8
  simp only [Bool.and_eq_true, decide_eq_true_eq] at h8
  omega
theorem l23_Small.l0_ok (a : Aut) : l23_Small.l0 a := by
 rintro i n st fin ed ⟨h1, h2, e1, e2, e3, e4⟩ hs
 subst n st fin ed
 refine ifD (fun h => ?_) fun h => ?_
 ·have hi : i.toNat < a.edges.length := by omega
  rw [nth_drop (d := default) hi, show (i + 1).toNat = i.toNat + 1 by omega, List.all_cons]
  refine ⟨by omega, fun _ => ⟨fun _ => by omega, fun _ => by omega, ?_⟩⟩
  rw [Tm.eta]
  refine ifB_of (fun hb => ?_) fun hb => ⟨inR64 (by omega), ⟨by omega, by omega, rfl, rfl, rfl, rfl⟩, by omega, ?_⟩
  ·have e : Sp.sml23 (nth default a.edges i) = false := by rw [Sp.sml23, hb]; rfl
   rw [e]; rfl
  ·have e : Sp.sml23 (nth default a.edges i) = true := by rw [Sp.sml23, hb]; rfl
   rw [e, Bool.true_and]
 ·rw [List.drop_eq_nil_of_le (by omega), show i = a.edges.length by omega]
  rfl
theorem l23_Small.main (a : Aut) (m : Int) (ha : -1 ≤ m ∧ m ≤ 1000000) : l23_Small.t a m := by
 intro hs
 refine ifB_of (fun h => ?_) fun h => ⟨⟨by omega, by omega, rfl, rfl, rfl, rfl⟩, l23_Small.l0_ok a, fun i n st fin ed hq => ?_, fun b hq => ?_⟩
 ·have e : Sp.big23 a m = true := h
  rw [Sp.small23, e]; rfl
 ·have e : Sp.big23 a m = false := h
  rw [Int.toNat_zero, List.drop_zero] at hq
  rw [Sp.small23, e]
  split at hq
  ·rename_i h1; rw [h1]; rfl
  ·cases hq
 ·have e : Sp.big23 a m = false := h
  rw [Int.toNat_zero, List.drop_zero] at hq
  rw [Sp.small23, e]
  split at hq
  ·cases hq
  ·rename_i h1
   cases hq
   simpa using h1
theorem l23_Small.ok (W : World) : CtrOK Go.Proofs.Tryz.prog W 5 l23_Small.C := by
 refine funOK (Γ := lookC [(6, l09_Small.C)]) (lookC_ok (fun p hp => by
  simp only [List.mem_cons, List.not_mem_nil, or_false] at hp
  subst hp; exact l09_Small.ok W)) (Λ := fun a_ => match a_ with | (a, m) => (l23_Small.Λ a m)) (Λr := fun a_ => match a_ with | (a, m) => (fun _ => none)) ?_
 intro a ha
 obtain ⟨a, m⟩ := a
 refine Eq.mpr ?_ (@l23_Small.main a m ha)
 kernel_rfl
theorem l23_given.l0_ok (a : Aut) (ha : a.edges.length ≤ 4000000) : l23_given.l0 a := by
 rintro i n st fin ed n1 st1 fin1 ed1 ⟨h1, h2, e1, e2, e3, e4, e5, e6, e7, e8⟩ hs
 subst n st fin ed n1 st1 fin1 ed1
 refine ifD (fun h => ?_) fun h => ?_
 ·have hi : i.toNat < a.edges.length := by omega
  rw [Tm.eta, show (Edg.mk (nth default a.edges i).src (nth default a.edges i).dst (nth default a.edges i).kind (nth default a.edges i).sym (nth default a.edges i).exc (nth default a.edges i).inner) = nth default a.edges i from rfl]
  refine ⟨by omega, ?_, inR64 (by omega), ⟨by omega, by omega, rfl, rfl, rfl, rfl, rfl, rfl, rfl, ?_⟩, by omega, rfl⟩
  ·simp only [List.length_take, List.length_cons, List.length_nil]; omega
  ·rw [show (i + 1).toNat = i.toNat + 1 by omega, List.take_add_one]
   congr 1
   simp [nth, List.getD_eq_getElem?_getD, hi]
 ·rw [show i = a.edges.length by omega, Int.toNat_natCast, List.take_length]
theorem l23_given.main (a : Aut) (ha : a.edges.length ≤ 4000000) : l23_given.t a := by
 refine ⟨⟨by omega, by omega, rfl, rfl, rfl, rfl, rfl, rfl, rfl, rfl⟩, l23_given.l0_ok a ha, fun i n st fin ed n1 st1 fin1 ed1 hq => ?_⟩
 simp only [LOut.brk.injEq, Prod.mk.injEq] at hq
 obtain ⟨_, _, _, _, _, rfl, rfl, rfl, rfl⟩ := hq
 rfl
theorem l23_given.ok (W : World) : CtrOK Go.Proofs.Tryz.prog W 9 l23_given.C := by
 refine funOK (Γ := lookC []) (lookC_ok (fun p hp => by cases hp)) (Λ := fun a_ => match a_ with | a => (l23_given.Λ a)) (Λr := fun a_ => match a_ with | a => (fun _ => none)) ?_
 intro a ha
 refine Eq.mpr ?_ (@l23_given.main a ha)
 kernel_rfl
theorem l23_RegularHas.main (a : Aut) (v : List Tm) (ha : Sp.okA a ∧ Sp.okL v ∧ a.edges.length ≤ 4000000) : l23_RegularHas.t a v := by
 obtain ⟨h1, h2, h3⟩ := ha
 refine ⟨by omega, fun b hb => ⟨fun _ => by omega, ifB_of (fun h => ⟨rfl, fun b1 hb1 => hb1⟩) fun h => ⟨h3, fun x hx => ?_⟩⟩⟩
 have hx' : a = x := hx
 subst hx'
 refine ⟨⟨h1, h2⟩, fun b1 i e1 => ⟨⟨h1, h2⟩, fun b2 i1 e2 => ?_⟩⟩
 have key : (b1, i) = (b2, i1) := by
  rw [← e1, ← e2]
  by_cases hc : Sp.rcheck a = 0
  ·rw [if_pos hc, if_pos (show Sp.rcheck (Aut.mk a.states a.start a.final a.edges) = 0 from hc), Sp.has_eq hc v]
  ·rw [if_neg hc, if_neg (show ¬ Sp.rcheck (Aut.mk a.states a.start a.final a.edges) = 0 from hc)]
 obtain ⟨rfl, rfl⟩ := Prod.mk.inj key
 exact ⟨fun _ => h3, fun _ => h1, fun _ => h1, fun _ => rfl, by simp⟩
theorem l23_RegularHas.ok (W : World) : CtrOK Go.Proofs.Tryz.prog W 3 l23_RegularHas.C := by
 refine funOK (Γ := lookC [(5, l23_Small.C), (6, l09_Small.C), (7, l23_awake.C), (8, regular_Has.C), (9, l23_given.C), (10, r23_Has.C), (11, regular_Check.C), (12, r23_Check.C)]) (lookC_ok (fun p hp => by
  simp only [List.mem_cons, List.not_mem_nil, or_false] at hp
  rcases hp with rfl | rfl | rfl | rfl | rfl | rfl | rfl | rfl
  ·exact l23_Small.ok W
  ·exact l09_Small.ok W
  ·exact l23_awake.ok W
  ·exact regular_Has.ok W
  ·exact l23_given.ok W
  ·exact r23_Has.ok W
  ·exact regular_Check.ok W
  ·exact r23_Check.ok W)) (Λ := fun a_ => match a_ with | (a, v) => (fun _ => none)) (Λr := fun a_ => match a_ with | (a, v) => (fun _ => none)) ?_
 intro a ha
 obtain ⟨a, v⟩ := a
 refine Eq.mpr ?_ (@l23_RegularHas.main a v ha)
 kernel_rfl
end Go.AL
