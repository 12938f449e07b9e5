/- Functions of the program: what they return, and that they do. -/
import Derived.Test.YtcalbijmeifbhaaGreatGroupC
import Derived.Test.YtcalbijmeifbhaaGreatProg
import Derived.KernelRfl
import Derived.Test.YtcalbijmeifbhaaGreatEvalC
import Derived.Test.YtcalbijmeifbhaaGreatHandH
import Derived.Test.YtcalbijmeifbhaaGreatGroupA
set_option linter.unusedVariables false
set_option linter.unusedSimpArgs false
namespace Go.AL
set_option linter.unusedVariables false
def regular_grow__alt.C : Ctr := altCtrB 67 1 regular_grow__1.C regular_grow__2.C
def regular_Automaton_trim.L0 : LD := { cs := [35], cts := [.int .i64], pts := [(3, (.loc 6 0)), (5, (.loc 26 0)), (6, (.loc 27 0)), (7, (.sl 1 28 ))], vs := [36], os := [(6, .plain, [none, none, none, none, none, none, none]), (26, .plain, [none, none, none, none, none, none, none]), (27, .plain, [none, none, none, none]), (28, .arr, [none, some (.sl 1 28 )])], vts := [.int .i64, .int .u64, .int .u64, .int .u64, .int .u64, .int .u64, .int .u64, .int .u64, .int .u64, .int .u64, .int .u64, .int .u64, .int .u64, .int .u64, .int .u64, .int .i64, .int .i64, .lst (.int .i64), .lst (.nm 6), .lst (.int .i64)], own := [false, false, false, false, false, false, false, false, false, false, false, false, false, false, false, false, false, true, true, false], ro := [0, 1, 2, 14, 15, 16, 17, 3, 18, 19, 20, 21, 22, 4, 24, 25, 26, 27, 28, 29, 5, 30, 6, 31, 32, 33, 7, 34, 35], nx := 100 }
def regular_Automaton_trim.L2 : LD := { cs := [64, 65], cts := [.lst (.int .i64), .int .i64], pts := [(5, (.loc 26 0)), (6, (.loc 27 0)), (7, (.sl 1 28 ))], vs := [66], os := [(26, .plain, [none, none, none, none, none, none, none]), (27, .plain, [none, none, none, none]), (28, .arr, [none, some (.sl 1 28 )])], vts := [.int .i64, .int .u64, .int .u64, .int .u64, .int .u64, .int .u64, .int .u64, .int .u64, .int .i64, .int .i64, .lst (.int .i64), .lst (.nm 6), .lst (.int .i64)], own := [false, false, false, false, false, false, false, false, false, false, true, true, false], ro := [36, 0, 1, 2, 14, 15, 16, 17, 3, 18, 19, 20, 21, 22, 4, 24, 25, 26, 27, 28, 29, 5, 30, 6, 31, 32, 33, 7, 34, 35, 57, 58, 59, 60, 61, 62, 63, 64, 65], nx := 200 }
def regular_Automaton_trim.L4 : LD := { cs := [84, 85], cts := [.lst (.nm 6), .int .i64], pts := [(3, (.loc 6 0)), (5, (.loc 26 0)), (6, (.loc 27 0)), (7, (.sl 1 28 ))], vs := [86], os := [(26, .plain, [none, none, none, none, none, none, none]), (27, .plain, [none, none, none, none]), (28, .arr, [none, some (.sl 1 28 )]), (6, .plain, [none, none, none, none, none, none, none])], vts := [.int .i64, .int .u64, .int .u64, .int .u64, .int .u64, .int .u64, .int .u64, .int .u64, .int .i64, .int .i64, .lst (.int .i64), .lst (.nm 6), .lst (.int .i64), .int .u64, .int .u64, .int .u64, .int .u64, .int .u64, .int .u64, .int .u64], own := [false, false, false, false, false, false, false, false, false, false, true, true, false, false, false, false, false, false, false, false], ro := [66, 36, 0, 1, 2, 14, 15, 16, 17, 3, 18, 19, 20, 21, 22, 4, 24, 25, 26, 27, 28, 29, 5, 30, 6, 31, 32, 33, 7, 34, 35, 57, 58, 59, 60, 61, 62, 63, 64, 65, 83, 84, 85], nx := 300 }
def regular_Automaton_trim.Λ (a : Aut) : Nat → Option (Loop (ElT [.nm 7])) := fun id =>
 if id = 0 then some (mkLoop regular_Automaton_trim.L0
  (fun (c_ : Int) (s_ : Int × Int × Int × Int × Int × Int × Int × Int × Int × Int × Int × Int × Int × Int × Int × Int × Int × (List Int) × (List Edg) × (List Int)) => match c_, s_ with | m, (i, w0, w1, w2, w3, w4, w5, w6, s0, s1, s2, s3, s4, s5, s6, os, ost, ofin, oed, tl) => m = a.states ∧ 0 ≤ i ∧ i ≤ a.states ∧ (⟨w0, w1, w2, w3, w4, w5, w6⟩ : Bts) = Sp.alive a ∧ (⟨s0, s1, s2, s3, s4, s5, s6⟩ : Bts) = Sp.reach a ∧ os = Sp.rank (Sp.pA a) i.toNat ∧ ost = 0 ∧ ofin = [] ∧ oed = [] ∧ tl = (List.range i.toNat).map (Sp.toR (Sp.pA a)) ++ Sp.zeros (a.states.toNat - i.toNat))
  (fun (c_ : Int) (s_ : Int × Int × Int × Int × Int × Int × Int × Int × Int × Int × Int × Int × Int × Int × Int × Int × Int × (List Int) × (List Edg) × (List Int)) => match c_, s_ with | m, (i, w0, w1, w2, w3, w4, w5, w6, s0, s1, s2, s3, s4, s5, s6, os, ost, ofin, oed, tl) => (a.states - i : Int).toNat)
  (fun (c_ : Int) (s_ : Int × Int × Int × Int × Int × Int × Int × Int × Int × Int × Int × Int × Int × Int × Int × Int × Int × (List Int) × (List Edg) × (List Int)) => match c_, s_ with | m, (i, w0, w1, w2, w3, w4, w5, w6, s0, s1, s2, s3, s4, s5, s6, os, ost, ofin, oed, tl) => .brk (a.states, w0, w1, w2, w3, w4, w5, w6, s0, s1, s2, s3, s4, s5, s6, Sp.rank (Sp.pA a) a.states.toNat, 0, [], [], Sp.toA a)) [] false) else
 if id = 2 then some (mkLoop regular_Automaton_trim.L2
  (fun (c_ : (List Int) × Int) (s_ : Int × Int × Int × Int × Int × Int × Int × Int × Int × Int × (List Int) × (List Edg) × (List Int)) => match c_, s_ with | (l, m), (i, s0, s1, s2, s3, s4, s5, s6, os, ost, ofin, oed, tl) => l = a.final ∧ m = l.length ∧ l.length < 9223372036854775808 ∧ 0 ≤ i ∧ i ≤ l.length ∧ (⟨s0, s1, s2, s3, s4, s5, s6⟩ : Bts) = Sp.reach a ∧ tl = Sp.toA a ∧ ofin.length ≤ i)
  (fun (c_ : (List Int) × Int) (s_ : Int × Int × Int × Int × Int × Int × Int × Int × Int × Int × (List Int) × (List Edg) × (List Int)) => match c_, s_ with | (l, m), (i, s0, s1, s2, s3, s4, s5, s6, os, ost, ofin, oed, tl) => (l.length - i : Int).toNat)
  (fun (c_ : (List Int) × Int) (s_ : Int × Int × Int × Int × Int × Int × Int × Int × Int × Int × (List Int) × (List Edg) × (List Int)) => match c_, s_ with | (l, m), (i, s0, s1, s2, s3, s4, s5, s6, os, ost, ofin, oed, tl) => .brk ((l.length : Int), s0, s1, s2, s3, s4, s5, s6, os, ost, ofin ++ ((l.drop i.toNat).filter (Sp.bhas (Sp.reach a))).map (nth 0 (Sp.toA a)), oed, tl)) [] false) else
 if id = 4 then some (mkLoop regular_Automaton_trim.L4
  (fun (c_ : (List Edg) × Int) (s_ : Int × Int × Int × Int × Int × Int × Int × Int × Int × Int × (List Int) × (List Edg) × (List Int) × Int × Int × Int × Int × Int × Int × Int) => match c_, s_ with | (l, m), (i, s0, s1, s2, s3, s4, s5, s6, os, ost, ofin, oed, tl, w0, w1, w2, w3, w4, w5, w6) => l = a.edges ∧ m = l.length ∧ l.length < 9223372036854775808 ∧ 0 ≤ i ∧ i ≤ l.length ∧ (⟨s0, s1, s2, s3, s4, s5, s6⟩ : Bts) = Sp.reach a ∧ (⟨w0, w1, w2, w3, w4, w5, w6⟩ : Bts) = Sp.alive a ∧ tl = Sp.toA a ∧ oed.length ≤ i)
  (fun (c_ : (List Edg) × Int) (s_ : Int × Int × Int × Int × Int × Int × Int × Int × Int × Int × (List Int) × (List Edg) × (List Int) × Int × Int × Int × Int × Int × Int × Int) => match c_, s_ with | (l, m), (i, s0, s1, s2, s3, s4, s5, s6, os, ost, ofin, oed, tl, w0, w1, w2, w3, w4, w5, w6) => (l.length - i : Int).toNat)
  (fun (c_ : (List Edg) × Int) (s_ : Int × Int × Int × Int × Int × Int × Int × Int × Int × Int × (List Int) × (List Edg) × (List Int) × Int × Int × Int × Int × Int × Int × Int) => match c_, s_ with | (l, m), (i, s0, s1, s2, s3, s4, s5, s6, os, ost, ofin, oed, tl, w0, w1, w2, w3, w4, w5, w6) => .brk ((l.length : Int), s0, s1, s2, s3, s4, s5, s6, os, ost, ofin, (l.drop i.toNat).foldl (Sp.tre (Sp.alive a) (Sp.reach a) (Sp.toA a)) oed, tl, w0, w1, w2, w3, w4, w5, w6)) [] false) else
 none
def regular_Automaton_trim.C : Ctr := pureCtr [.nm 7] [.nm 7] (some (fun (a : Aut) => Sp.okN a)) (fun (a : Aut) => (Sp.rtrim a))
end Go.AL
namespace Go.AL
set_option linter.unusedVariables false
set_option maxRecDepth 10000
def regular_Automaton_trim.l0 (a : Aut) : Prop :=
 ∀ i18 i19 i20 i21 i22 i23 i24 i25 i26 i27 i28 i29 i30 i31 i32 i33 i34 i35 : Int, ∀ l4 : List Int, ∀ l5 : List Edg, ∀ l6 : List Int, i18=Aut.states a∧0≤i19∧i19≤Aut.states a∧Bts.mk i20 i21 i22 i23 i24 i25 i26=Sp.alive a∧Bts.mk i27 i28 i29 i30 i31 i32 i33=Sp.reach a∧i34=Sp.rank (Sp.pA a) (Int.toNat i19)∧i35=0∧l4=([] : List Int)∧l5=([] : List Edg)∧l6=List.map (Sp.toR (Sp.pA a)) (List.range (Int.toNat i19)) ++ Sp.zeros (Int.toNat (Aut.states a) - Int.toNat i19)→ifB (decide (i19 < i18)) ((0≤i19∧i19 < 400)∧∀ b1 : Bool, Sp.bhas (Bts.mk i27 i28 i29 i30 i31 i32 i33) i19=b1→(b1=true→0≤i19∧i19 < 400)∧ifB (b1 && Sp.bhas (Bts.mk i20 i21 i22 i23 i24 i25 i26) i19) ((0≤i19∧i19 < (↑(List.length l6) : Int))∧inR .i64 (i34 + 1)∧inR .i64 (i19 + 1)∧(i18=Aut.states a∧0≤i19 + 1∧i19 + 1≤Aut.states a∧Bts.mk i20 i21 i22 i23 i24 i25 i26=Sp.alive a∧Bts.mk i27 i28 i29 i30 i31 i32 i33=Sp.reach a∧i34 + 1=Sp.rank (Sp.pA a) (Int.toNat (i19 + 1))∧i35=0∧l4=([] : List Int)∧l5=([] : List Edg)∧List.set l6 (Int.toNat i19) i34=List.map (Sp.toR (Sp.pA a)) (List.range (Int.toNat (i19 + 1))) ++ Sp.zeros (Int.toNat (Aut.states a) - Int.toNat (i19 + 1)))∧Int.toNat (Aut.states a - (i19 + 1)) < Int.toNat (Aut.states a - i19)∧(LOut.brk (Aut.states a, i20, i21, i22, i23, i24, i25, i26, i27, i28, i29, i30, i31, i32, i33, Sp.rank (Sp.pA a) (Int.toNat (Aut.states a)), 0, ([] : List Int), ([] : List Edg), Sp.toA a) : LOut (Int × Int × Int × Int × Int × Int × Int × Int × Int × Int × Int × Int × Int × Int × Int × Int × Int × List Int × List Edg × List Int) Aut)=LOut.brk (Aut.states a, i20, i21, i22, i23, i24, i25, i26, i27, i28, i29, i30, i31, i32, i33, Sp.rank (Sp.pA a) (Int.toNat (Aut.states a)), 0, ([] : List Int), ([] : List Edg), Sp.toA a)) (inR .i64 (i19 + 1)∧(i18=Aut.states a∧0≤i19 + 1∧i19 + 1≤Aut.states a∧Bts.mk i20 i21 i22 i23 i24 i25 i26=Sp.alive a∧Bts.mk i27 i28 i29 i30 i31 i32 i33=Sp.reach a∧i34=Sp.rank (Sp.pA a) (Int.toNat (i19 + 1))∧i35=0∧l4=([] : List Int)∧l5=([] : List Edg)∧l6=List.map (Sp.toR (Sp.pA a)) (List.range (Int.toNat (i19 + 1))) ++ Sp.zeros (Int.toNat (Aut.states a) - Int.toNat (i19 + 1)))∧Int.toNat (Aut.states a - (i19 + 1)) < Int.toNat (Aut.states a - i19)∧(LOut.brk (Aut.states a, i20, i21, i22, i23, i24, i25, i26, i27, i28, i29, i30, i31, i32, i33, Sp.rank (Sp.pA a) (Int.toNat (Aut.states a)), 0, ([] : List Int), ([] : List Edg), Sp.toA a) : LOut (Int × Int × Int × Int × Int × Int × Int × Int × Int × Int × Int × Int × Int × Int × Int × Int × Int × List Int × List Edg × List Int) Aut)=LOut.brk (Aut.states a, i20, i21, i22, i23, i24, i25, i26, i27, i28, i29, i30, i31, i32, i33, Sp.rank (Sp.pA a) (Int.toNat (Aut.states a)), 0, ([] : List Int), ([] : List Edg), Sp.toA a))) ((LOut.brk (Aut.states a, i20, i21, i22, i23, i24, i25, i26, i27, i28, i29, i30, i31, i32, i33, Sp.rank (Sp.pA a) (Int.toNat (Aut.states a)), 0, ([] : List Int), ([] : List Edg), Sp.toA a) : LOut (Int × Int × Int × Int × Int × Int × Int × Int × Int × Int × Int × Int × Int × Int × Int × Int × Int × List Int × List Edg × List Int) Aut)=LOut.brk (i19, i20, i21, i22, i23, i24, i25, i26, i27, i28, i29, i30, i31, i32, i33, i34, i35, l4, l5, l6))
def regular_Automaton_trim.l2 (a : Aut) : Prop :=
 ∀ l7 : List Int, ∀ i35 i36 i37 i38 i39 i40 i41 i42 i43 i44 i45 : Int, ∀ l8 : List Int, ∀ l9 : List Edg, ∀ l10 : List Int, l7=Aut.final a∧i35=(↑(List.length l7) : Int)∧List.length l7 < 9223372036854775808∧0≤i36∧i36≤(↑(List.length l7) : Int)∧Bts.mk i37 i38 i39 i40 i41 i42 i43=Sp.reach a∧l10=Sp.toA a∧(↑(List.length l8) : Int)≤i36→ifB (decide (i36 < i35)) ((0≤i36∧i36 < (↑(List.length l7) : Int))∧(0≤nth 0 l7 i36∧nth 0 l7 i36 < 400)∧∀ b1 : Bool, Sp.bhas (Bts.mk i37 i38 i39 i40 i41 i42 i43) (nth 0 l7 i36)=b1→ifB b1 ((0≤nth 0 l7 i36∧nth 0 l7 i36 < (↑(List.length l10) : Int))∧List.length l8 + List.length (nth 0 l10 (nth 0 l7 i36) :: ([] : List Int))≤8589934592∧inR .i64 (i36 + 1)∧(l7=Aut.final a∧i35=(↑(List.length l7) : Int)∧List.length l7 < 9223372036854775808∧0≤i36 + 1∧i36 + 1≤(↑(List.length l7) : Int)∧Bts.mk i37 i38 i39 i40 i41 i42 i43=Sp.reach a∧l10=Sp.toA a∧(↑(List.length (l8 ++ nth 0 l10 (nth 0 l7 i36) :: ([] : List Int))) : Int)≤i36 + 1)∧Int.toNat ((↑(List.length l7) : Int) - (i36 + 1)) < Int.toNat ((↑(List.length l7) : Int) - i36)∧(LOut.brk ((↑(List.length l7) : Int), i37, i38, i39, i40, i41, i42, i43, i44, i45, l8 ++ nth 0 l10 (nth 0 l7 i36) :: ([] : List Int) ++ List.map (nth 0 (Sp.toA a)) (List.filter (Sp.bhas (Sp.reach a)) (List.drop (Int.toNat (i36 + 1)) l7)), l9, l10) : LOut _ Aut)=LOut.brk ((↑(List.length l7) : Int), i37, i38, i39, i40, i41, i42, i43, i44, i45, l8 ++ List.map (nth 0 (Sp.toA a)) (List.filter (Sp.bhas (Sp.reach a)) (List.drop (Int.toNat i36) l7)), l9, l10)) (inR .i64 (i36 + 1)∧(l7=Aut.final a∧i35=(↑(List.length l7) : Int)∧List.length l7 < 9223372036854775808∧0≤i36 + 1∧i36 + 1≤(↑(List.length l7) : Int)∧Bts.mk i37 i38 i39 i40 i41 i42 i43=Sp.reach a∧l10=Sp.toA a∧(↑(List.length l8) : Int)≤i36 + 1)∧Int.toNat ((↑(List.length l7) : Int) - (i36 + 1)) < Int.toNat ((↑(List.length l7) : Int) - i36)∧(LOut.brk ((↑(List.length l7) : Int), i37, i38, i39, i40, i41, i42, i43, i44, i45, l8 ++ List.map (nth 0 (Sp.toA a)) (List.filter (Sp.bhas (Sp.reach a)) (List.drop (Int.toNat (i36 + 1)) l7)), l9, l10) : LOut _ Aut)=LOut.brk ((↑(List.length l7) : Int), i37, i38, i39, i40, i41, i42, i43, i44, i45, l8 ++ List.map (nth 0 (Sp.toA a)) (List.filter (Sp.bhas (Sp.reach a)) (List.drop (Int.toNat i36) l7)), l9, l10))) ((LOut.brk ((↑(List.length l7) : Int), i37, i38, i39, i40, i41, i42, i43, i44, i45, l8 ++ List.map (nth 0 (Sp.toA a)) (List.filter (Sp.bhas (Sp.reach a)) (List.drop (Int.toNat i36) l7)), l9, l10) : LOut _ Aut)=LOut.brk (i36, i37, i38, i39, i40, i41, i42, i43, i44, i45, l8, l9, l10))
def regular_Automaton_trim.l4 (a : Aut) : Prop :=
 ∀ l10 : List Edg, ∀ i45 i46 i47 i48 i49 i50 i51 i52 i53 i54 i55 : Int, ∀ l11 : List Int, ∀ l12 : List Edg, ∀ l13 : List Int, ∀ i56 i57 i58 i59 i60 i61 i62 : Int, l10=Aut.edges a∧i45=(↑(List.length l10) : Int)∧List.length l10 < 9223372036854775808∧0≤i46∧i46≤(↑(List.length l10) : Int)∧Bts.mk i47 i48 i49 i50 i51 i52 i53=Sp.reach a∧Bts.mk i56 i57 i58 i59 i60 i61 i62=Sp.alive a∧l13=Sp.toA a∧(↑(List.length l12) : Int)≤i46→ifB (decide (i46 < i45)) ((0≤i46∧i46 < (↑(List.length l10) : Int))∧((0≤Edg.dst (nth Inhabited.default l10 i46)∧Edg.dst (nth Inhabited.default l10 i46) < 400)∧(Edg.kind (nth Inhabited.default l10 i46)=5→0≤Edg.inner (nth Inhabited.default l10 i46)∧Edg.inner (nth Inhabited.default l10 i46) < 400))∧∀ b1 : Bool, Sp.good (Edg.mk (Edg.src (nth Inhabited.default l10 i46)) (Edg.dst (nth Inhabited.default l10 i46)) (Edg.kind (nth Inhabited.default l10 i46)) (Tm.mk (Tm.kind (Edg.sym (nth Inhabited.default l10 i46))) (Tm.text (Edg.sym (nth Inhabited.default l10 i46))) (Tm.kids (Edg.sym (nth Inhabited.default l10 i46)))) (Edg.exc (nth Inhabited.default l10 i46)) (Edg.inner (nth Inhabited.default l10 i46))) (Bts.mk i56 i57 i58 i59 i60 i61 i62)=b1→((!b1)=false→0≤Edg.src (nth Inhabited.default l10 i46)∧Edg.src (nth Inhabited.default l10 i46) < 400)∧ifB ((!b1) || (!(Sp.bhas (Bts.mk i47 i48 i49 i50 i51 i52 i53) (Edg.src (nth Inhabited.default l10 i46))))) (inR .i64 (i46 + 1)∧(l10=Aut.edges a∧i45=(↑(List.length l10) : Int)∧List.length l10 < 9223372036854775808∧0≤i46 + 1∧i46 + 1≤(↑(List.length l10) : Int)∧Bts.mk i47 i48 i49 i50 i51 i52 i53=Sp.reach a∧Bts.mk i56 i57 i58 i59 i60 i61 i62=Sp.alive a∧l13=Sp.toA a∧(↑(List.length l12) : Int)≤i46 + 1)∧Int.toNat ((↑(List.length l10) : Int) - (i46 + 1)) < Int.toNat ((↑(List.length l10) : Int) - i46)∧(LOut.brk ((↑(List.length l10) : Int), i47, i48, i49, i50, i51, i52, i53, i54, i55, l11, List.foldl (Sp.tre (Sp.alive a) (Sp.reach a) (Sp.toA a)) l12 (List.drop (Int.toNat (i46 + 1)) l10), l13, i56, i57, i58, i59, i60, i61, i62) : LOut _ Aut)=LOut.brk ((↑(List.length l10) : Int), i47, i48, i49, i50, i51, i52, i53, i54, i55, l11, List.foldl (Sp.tre (Sp.alive a) (Sp.reach a) (Sp.toA a)) l12 (List.drop (Int.toNat i46) l10), l13, i56, i57, i58, i59, i60, i61, i62)) ((0≤Edg.src (nth Inhabited.default l10 i46)∧Edg.src (nth Inhabited.default l10 i46) < (↑(List.length l13) : Int))∧(0≤Edg.dst (nth Inhabited.default l10 i46)∧Edg.dst (nth Inhabited.default l10 i46) < (↑(List.length l13) : Int))∧Sp.okL (Edg.exc (nth Inhabited.default l10 i46))∧ifB (decide (Edg.kind (nth Inhabited.default l10 i46)=5)) ((0≤Edg.inner (nth Inhabited.default l10 i46)∧Edg.inner (nth Inhabited.default l10 i46) < (↑(List.length l13) : Int))∧∀ b2 : Bool, ∀ i63 i64 i65 i66 : Int, ∀ s : ByteArray, ∀ l14 l15 : List Tm, ∀ i67 : Int, (List.any l12 (Sp.sameE (Edg.mk (nth 0 l13 (Edg.src (nth Inhabited.default l10 i46))) (nth 0 l13 (Edg.dst (nth Inhabited.default l10 i46))) (Edg.kind (nth Inhabited.default l10 i46)) (Tm.mk (Tm.kind (Edg.sym (nth Inhabited.default l10 i46))) (Tm.text (Edg.sym (nth Inhabited.default l10 i46))) (Tm.kids (Edg.sym (nth Inhabited.default l10 i46)))) (Edg.exc (nth Inhabited.default l10 i46)) (nth 0 l13 (Edg.inner (nth Inhabited.default l10 i46))))), nth 0 l13 (Edg.src (nth Inhabited.default l10 i46)), nth 0 l13 (Edg.dst (nth Inhabited.default l10 i46)), Edg.kind (nth Inhabited.default l10 i46), Tm.kind (Edg.sym (nth Inhabited.default l10 i46)), Tm.text (Edg.sym (nth Inhabited.default l10 i46)), Tm.kids (Edg.sym (nth Inhabited.default l10 i46)), Edg.exc (nth Inhabited.default l10 i46), nth 0 l13 (Edg.inner (nth Inhabited.default l10 i46)))=(b2, i63, i64, i65, i66, s, l14, l15, i67)→ifB (!b2) (List.length l12 + List.length (Edg.mk i63 i64 i65 (Tm.mk i66 s l14) l15 i67 :: ([] : List Edg))≤8589934592∧inR .i64 (i46 + 1)∧(l10=Aut.edges a∧i45=(↑(List.length l10) : Int)∧List.length l10 < 9223372036854775808∧0≤i46 + 1∧i46 + 1≤(↑(List.length l10) : Int)∧Bts.mk i47 i48 i49 i50 i51 i52 i53=Sp.reach a∧Bts.mk i56 i57 i58 i59 i60 i61 i62=Sp.alive a∧l13=Sp.toA a∧(↑(List.length (l12 ++ Edg.mk i63 i64 i65 (Tm.mk i66 s l14) l15 i67 :: ([] : List Edg))) : Int)≤i46 + 1)∧Int.toNat ((↑(List.length l10) : Int) - (i46 + 1)) < Int.toNat ((↑(List.length l10) : Int) - i46)∧(LOut.brk ((↑(List.length l10) : Int), i47, i48, i49, i50, i51, i52, i53, i54, i55, l11, List.foldl (Sp.tre (Sp.alive a) (Sp.reach a) (Sp.toA a)) (l12 ++ Edg.mk i63 i64 i65 (Tm.mk i66 s l14) l15 i67 :: ([] : List Edg)) (List.drop (Int.toNat (i46 + 1)) l10), l13, i56, i57, i58, i59, i60, i61, i62) : LOut _ Aut)=LOut.brk ((↑(List.length l10) : Int), i47, i48, i49, i50, i51, i52, i53, i54, i55, l11, List.foldl (Sp.tre (Sp.alive a) (Sp.reach a) (Sp.toA a)) l12 (List.drop (Int.toNat i46) l10), l13, i56, i57, i58, i59, i60, i61, i62)) (inR .i64 (i46 + 1)∧(l10=Aut.edges a∧i45=(↑(List.length l10) : Int)∧List.length l10 < 9223372036854775808∧0≤i46 + 1∧i46 + 1≤(↑(List.length l10) : Int)∧Bts.mk i47 i48 i49 i50 i51 i52 i53=Sp.reach a∧Bts.mk i56 i57 i58 i59 i60 i61 i62=Sp.alive a∧l13=Sp.toA a∧(↑(List.length l12) : Int)≤i46 + 1)∧Int.toNat ((↑(List.length l10) : Int) - (i46 + 1)) < Int.toNat ((↑(List.length l10) : Int) - i46)∧(LOut.brk ((↑(List.length l10) : Int), i47, i48, i49, i50, i51, i52, i53, i54, i55, l11, List.foldl (Sp.tre (Sp.alive a) (Sp.reach a) (Sp.toA a)) l12 (List.drop (Int.toNat (i46 + 1)) l10), l13, i56, i57, i58, i59, i60, i61, i62) : LOut _ Aut)=LOut.brk ((↑(List.length l10) : Int), i47, i48, i49, i50, i51, i52, i53, i54, i55, l11, List.foldl (Sp.tre (Sp.alive a) (Sp.reach a) (Sp.toA a)) l12 (List.drop (Int.toNat i46) l10), l13, i56, i57, i58, i59, i60, i61, i62))) (∀ b2 : Bool, ∀ i63 i64 i65 i66 : Int, ∀ s : ByteArray, ∀ l14 l15 : List Tm, ∀ i67 : Int, (List.any l12 (Sp.sameE (Edg.mk (nth 0 l13 (Edg.src (nth Inhabited.default l10 i46))) (nth 0 l13 (Edg.dst (nth Inhabited.default l10 i46))) (Edg.kind (nth Inhabited.default l10 i46)) (Tm.mk (Tm.kind (Edg.sym (nth Inhabited.default l10 i46))) (Tm.text (Edg.sym (nth Inhabited.default l10 i46))) (Tm.kids (Edg.sym (nth Inhabited.default l10 i46)))) (Edg.exc (nth Inhabited.default l10 i46)) 0)), nth 0 l13 (Edg.src (nth Inhabited.default l10 i46)), nth 0 l13 (Edg.dst (nth Inhabited.default l10 i46)), Edg.kind (nth Inhabited.default l10 i46), Tm.kind (Edg.sym (nth Inhabited.default l10 i46)), Tm.text (Edg.sym (nth Inhabited.default l10 i46)), Tm.kids (Edg.sym (nth Inhabited.default l10 i46)), Edg.exc (nth Inhabited.default l10 i46), 0)=(b2, i63, i64, i65, i66, s, l14, l15, i67)→ifB (!b2) (List.length l12 + List.length (Edg.mk i63 i64 i65 (Tm.mk i66 s l14) l15 i67 :: ([] : List Edg))≤8589934592∧inR .i64 (i46 + 1)∧(l10=Aut.edges a∧i45=(↑(List.length l10) : Int)∧List.length l10 < 9223372036854775808∧0≤i46 + 1∧i46 + 1≤(↑(List.length l10) : Int)∧Bts.mk i47 i48 i49 i50 i51 i52 i53=Sp.reach a∧Bts.mk i56 i57 i58 i59 i60 i61 i62=Sp.alive a∧l13=Sp.toA a∧(↑(List.length (l12 ++ Edg.mk i63 i64 i65 (Tm.mk i66 s l14) l15 i67 :: ([] : List Edg))) : Int)≤i46 + 1)∧Int.toNat ((↑(List.length l10) : Int) - (i46 + 1)) < Int.toNat ((↑(List.length l10) : Int) - i46)∧(LOut.brk ((↑(List.length l10) : Int), i47, i48, i49, i50, i51, i52, i53, i54, i55, l11, List.foldl (Sp.tre (Sp.alive a) (Sp.reach a) (Sp.toA a)) (l12 ++ Edg.mk i63 i64 i65 (Tm.mk i66 s l14) l15 i67 :: ([] : List Edg)) (List.drop (Int.toNat (i46 + 1)) l10), l13, i56, i57, i58, i59, i60, i61, i62) : LOut _ Aut)=LOut.brk ((↑(List.length l10) : Int), i47, i48, i49, i50, i51, i52, i53, i54, i55, l11, List.foldl (Sp.tre (Sp.alive a) (Sp.reach a) (Sp.toA a)) l12 (List.drop (Int.toNat i46) l10), l13, i56, i57, i58, i59, i60, i61, i62)) (inR .i64 (i46 + 1)∧(l10=Aut.edges a∧i45=(↑(List.length l10) : Int)∧List.length l10 < 9223372036854775808∧0≤i46 + 1∧i46 + 1≤(↑(List.length l10) : Int)∧Bts.mk i47 i48 i49 i50 i51 i52 i53=Sp.reach a∧Bts.mk i56 i57 i58 i59 i60 i61 i62=Sp.alive a∧l13=Sp.toA a∧(↑(List.length l12) : Int)≤i46 + 1)∧Int.toNat ((↑(List.length l10) : Int) - (i46 + 1)) < Int.toNat ((↑(List.length l10) : Int) - i46)∧(LOut.brk ((↑(List.length l10) : Int), i47, i48, i49, i50, i51, i52, i53, i54, i55, l11, List.foldl (Sp.tre (Sp.alive a) (Sp.reach a) (Sp.toA a)) l12 (List.drop (Int.toNat (i46 + 1)) l10), l13, i56, i57, i58, i59, i60, i61, i62) : LOut _ Aut)=LOut.brk ((↑(List.length l10) : Int), i47, i48, i49, i50, i51, i52, i53, i54, i55, l11, List.foldl (Sp.tre (Sp.alive a) (Sp.reach a) (Sp.toA a)) l12 (List.drop (Int.toNat i46) l10), l13, i56, i57, i58, i59, i60, i61, i62))))) ((LOut.brk ((↑(List.length l10) : Int), i47, i48, i49, i50, i51, i52, i53, i54, i55, l11, List.foldl (Sp.tre (Sp.alive a) (Sp.reach a) (Sp.toA a)) l12 (List.drop (Int.toNat i46) l10), l13, i56, i57, i58, i59, i60, i61, i62) : LOut _ Aut)=LOut.brk (i46, i47, i48, i49, i50, i51, i52, i53, i54, i55, l11, l12, l13, i56, i57, i58, i59, i60, i61, i62))
def regular_Automaton_trim.t (a : Aut) : Prop :=
 (∀ i : Int, Membership.mem (Aut.final a) i→0≤i∧i < 400)∧∀ x : Bts, Sp.bfin (Aut.final a) (Bts.mk 0 0 0 0 0 0 0)=x→((∀ x1 : Edg, Membership.mem (Aut.edges a) x1→Sp.okE x1)∧Sp.okW x)∧∀ x1 : Bts, ∀ i i1 : Int, ∀ l : List Int, ∀ l1 : List Edg, (Sp.fixN (Sp.g1 (Aut.edges a)) 449 x, Aut.states a, Aut.start a, Aut.final a, Aut.edges a)=(x1, i, i1, l, l1)→(0≤i1∧i1 < 400)∧∀ b : Bool, Sp.bhas x1 i1=b→ifB (!b) (Sp.rtrim a=Aut.mk 1 0 ([] : List Int) ([] : List Edg)) ((0≤i1∧i1 < 400)∧∀ i2 i3 i4 i5 i6 i7 i8 : Int, ((), Bts.b0 (Sp.bput (Bts.mk 0 0 0 0 0 0 0) i1), Bts.b1 (Sp.bput (Bts.mk 0 0 0 0 0 0 0) i1), Bts.b2 (Sp.bput (Bts.mk 0 0 0 0 0 0 0) i1), Bts.b3 (Sp.bput (Bts.mk 0 0 0 0 0 0 0) i1), Bts.b4 (Sp.bput (Bts.mk 0 0 0 0 0 0 0) i1), Bts.b5 (Sp.bput (Bts.mk 0 0 0 0 0 0 0) i1), Bts.b6 (Sp.bput (Bts.mk 0 0 0 0 0 0 0) i1))=((), i2, i3, i4, i5, i6, i7, i8)→((∀ x2 : Edg, Membership.mem l1 x2→Sp.okE x2)∧Sp.okW (Bts.mk i2 i3 i4 i5 i6 i7 i8))∧∀ x2 : Bts, ∀ i9 i10 : Int, ∀ l2 : List Int, ∀ l3 : List Edg, ∀ i11 i12 i13 i14 i15 i16 i17 : Int, (Sp.fixN (Sp.g2 x1 l1) 449 (Bts.mk i2 i3 i4 i5 i6 i7 i8), i, i1, l, l1, Bts.b0 x1, Bts.b1 x1, Bts.b2 x1, Bts.b3 x1, Bts.b4 x1, Bts.b5 x1, Bts.b6 x1)=(x2, i9, i10, l2, l3, i11, i12, i13, i14, i15, i16, i17)→(0≤i9∧i9≤i9∧i9≤8589934592)∧(i9=Aut.states a∧(0 : Int)≤0∧0≤Aut.states a∧Bts.mk i11 i12 i13 i14 i15 i16 i17=Sp.alive a∧x2=Sp.reach a∧0=Sp.rank (Sp.pA a) (Int.toNat 0)∧(0 : Int)=0∧([] : List Int)=([] : List Int)∧([] : List Edg)=([] : List Edg)∧List.replicate (Int.toNat i9) 0=Sp.zeros (Int.toNat (Aut.states a) - Int.toNat 0))∧regular_Automaton_trim.l0 a∧∀ i18 i19 i20 i21 i22 i23 i24 i25 i26 i27 i28 i29 i30 i31 i32 i33 i34 : Int, ∀ l4 : List Int, ∀ l5 : List Edg, ∀ l6 : List Int, (LOut.brk (Aut.states a, i11, i12, i13, i14, i15, i16, i17, Bts.b0 x2, Bts.b1 x2, Bts.b2 x2, Bts.b3 x2, Bts.b4 x2, Bts.b5 x2, Bts.b6 x2, Sp.rank (Sp.pA a) (Int.toNat (Aut.states a)), 0, ([] : List Int), ([] : List Edg), Sp.toA a) : LOut (Int × Int × Int × Int × Int × Int × Int × Int × Int × Int × Int × Int × Int × Int × Int × Int × Int × List Int × List Edg × List Int) Aut)=LOut.brk (i18, i19, i20, i21, i22, i23, i24, i25, i26, i27, i28, i29, i30, i31, i32, i33, i34, l4, l5, l6)→(0≤i10∧i10 < (↑(List.length l6) : Int))∧(List.length l2 < 9223372036854775808→(l2=Aut.final a∧(↑(List.length l2) : Int)=(↑(List.length l2) : Int)∧List.length l2 < 9223372036854775808∧(0 : Int)≤0∧0≤(↑(List.length l2) : Int)∧Bts.mk i26 i27 i28 i29 i30 i31 i32=Sp.reach a∧l6=Sp.toA a∧(↑(List.length l4) : Int)≤0)∧regular_Automaton_trim.l2 a∧∀ i35 i36 i37 i38 i39 i40 i41 i42 i43 i44 : Int, ∀ l7 : List Int, ∀ l8 : List Edg, ∀ l9 : List Int, (LOut.brk ((↑(List.length l2) : Int), i26, i27, i28, i29, i30, i31, i32, i33, nth 0 l6 i10, l4 ++ List.map (nth 0 (Sp.toA a)) (List.filter (Sp.bhas (Sp.reach a)) (List.drop (Int.toNat 0) l2)), l5, l6) : LOut _ Aut)=LOut.brk (i35, i36, i37, i38, i39, i40, i41, i42, i43, i44, l7, l8, l9)→List.length l3 < 9223372036854775808→(l3=Aut.edges a∧(↑(List.length l3) : Int)=(↑(List.length l3) : Int)∧List.length l3 < 9223372036854775808∧(0 : Int)≤0∧0≤(↑(List.length l3) : Int)∧Bts.mk i36 i37 i38 i39 i40 i41 i42=Sp.reach a∧Bts.mk i19 i20 i21 i22 i23 i24 i25=Sp.alive a∧l9=Sp.toA a∧(↑(List.length l8) : Int)≤0)∧regular_Automaton_trim.l4 a∧∀ i45 i46 i47 i48 i49 i50 i51 i52 i53 i54 : Int, ∀ l10 : List Int, ∀ l11 : List Edg, ∀ l12 : List Int, ∀ i55 i56 i57 i58 i59 i60 i61 : Int, (LOut.brk ((↑(List.length l3) : Int), i36, i37, i38, i39, i40, i41, i42, i43, i44, l7, List.foldl (Sp.tre (Sp.alive a) (Sp.reach a) (Sp.toA a)) l8 (List.drop (Int.toNat 0) l3), l9, i19, i20, i21, i22, i23, i24, i25) : LOut _ Aut)=LOut.brk (i45, i46, i47, i48, i49, i50, i51, i52, i53, i54, l10, l11, l12, i55, i56, i57, i58, i59, i60, i61)→Sp.rtrim a=Aut.mk i53 i54 l10 l11))
end Go.AL
namespace Go.AL
set_option linter.unusedVariables false
set_option linter.unusedSimpArgs false
set_option maxRecDepth 10000
attribute [local irreducible] wpF wpFX wpM wpFM
theorem regular_grow__alt.ok (W : World) : CtrOK Go.Proofs.Tryz.prog W 66 regular_grow__alt.C := altCtrB_ok (regular_grow__1.ok W) (regular_grow__2.ok W)
theorem Sp.okW_fin : ∀ {l : List Int} {s : Bts}, (∀ f ∈ l, 0 ≤ f ∧ f < 400) → Sp.okW s → Sp.okW (Sp.bfin l s) ∧ Sp.sub s (Sp.bfin l s)
 | [], s, _, hs => ⟨hs, Sp.sub_refl s⟩
 | f :: l, s, h, hs => by
   have h1 := Sp.put_inc hs (h f (by simp)).1 (h f (by simp)).2
   have h2 := Sp.okW_fin (l := l) (fun g hg => h g (by simp [hg])) h1.1
   exact ⟨h2.1, Sp.sub_trans h1.2 h2.2⟩
theorem Sp.rank_bd (p : Int → Bool) : ∀ n : Nat, 0 ≤ Sp.rank p n ∧ Sp.rank p n ≤ n
 | 0 => by simp [Sp.rank]
 | n + 1 => by
   have := Sp.rank_bd p n
   rw [Sp.rank]
   split <;> omega
theorem Sp.toL_len (p : Int → Bool) (N : Nat) : (Sp.toL p N).length = N := by simp [Sp.toL]
theorem Sp.toL_step {p : Int → Bool} {N i : Nat} (hi : i < N) {x : Int} (hx : x = Sp.toR p i) :
  ((List.range i).map (Sp.toR p) ++ Sp.zeros (N - i)).set i x = (List.range (i + 1)).map (Sp.toR p) ++ Sp.zeros (N - (i + 1)) := by
 rw [List.range_succ, List.map_append, List.append_assoc, List.set_append_right _ _ (by simp)]
 congr 1
 rw [show N - i = (N - (i + 1)) + 1 by omega, Sp.zeros, List.replicate_succ]
 simp [hx, Sp.zeros]
theorem Sp.toL_skip {p : Int → Bool} {N i : Nat} (hi : i < N) (hp : p i = false) :
  (List.range i).map (Sp.toR p) ++ Sp.zeros (N - i) = (List.range (i + 1)).map (Sp.toR p) ++ Sp.zeros (N - (i + 1)) := by
 rw [List.range_succ, List.map_append, List.append_assoc]
 congr 1
 rw [show N - i = (N - (i + 1)) + 1 by omega, Sp.zeros, List.replicate_succ]
 simp [Sp.toR, hp, Sp.zeros]
theorem Sp.okN_E {a : Aut} (ha : Sp.okN a) : ∀ e ∈ a.edges, Sp.okE e := by
 intro e he
 obtain ⟨k1, k2, k3, k4, k5, k6⟩ := ha
 obtain ⟨q1, q2, q3, q4, q5⟩ := k6 e he
 exact ⟨by omega, by omega, q3, fun h => by have := q4 h; omega⟩
theorem Sp.okN_F {a : Aut} (ha : Sp.okN a) : Sp.okW (Sp.bfin a.final Sp.bz) :=
 (Sp.okW_fin (fun f hf => by have := ha.2.2.1 f hf; have := ha.1; omega) Sp.okW_bz).1
theorem Sp.okN_S {a : Aut} (ha : Sp.okN a) : Sp.okW (Sp.bput Sp.bz a.start) :=
 (Sp.put_inc Sp.okW_bz ha.2.1.1 (by have := ha.2.1; have := ha.1; omega)).1
theorem regular_Automaton_trim.l0_ok (a : Aut) (ha : Sp.okN a) : regular_Automaton_trim.l0 a := by
 rintro m i w0 w1 w2 w3 w4 w5 w6 s0 s1 s2 s3 s4 s5 s6 os ost ofin oed tl ⟨e1, h1, h2, e2, e3, e4, e5, e6, e7, e8⟩
 subst m os ost ofin oed
 have hN := ha.1
 have hr := Sp.rank_bd (Sp.pA a) i.toNat
 have hl : tl.length = a.states.toNat := by rw [e8]; simp [Sp.zeros]; omega
 refine ifD (fun h => ?_) fun h => ?_
 ·have e1 : (i + 1).toNat = i.toNat + 1 := by omega
  refine ⟨by omega, fun b hb => ⟨fun _ => by omega, ?_⟩⟩
  have hp : (b && Sp.bhas ⟨w0, w1, w2, w3, w4, w5, w6⟩ i) = Sp.pA a i := by rw [Sp.pA, ← e3, ← e2, hb]
  rw [hp]
  have hi' : ((i.toNat : Nat) : Int) = i := by omega
  have hk : Sp.rank (Sp.pA a) (i + 1).toNat = Sp.rank (Sp.pA a) i.toNat + if Sp.pA a i = true then 1 else 0 := by rw [e1, Sp.rank, hi']
  refine ifB_of (fun h4 => ⟨⟨h1, by omega⟩, inR64 (by omega), inR64 (by omega), ⟨rfl, by omega, by omega, e2, e3, by rw [hk, if_pos h4], rfl, rfl, rfl, ?_⟩, by omega, rfl⟩) fun h4 => ⟨inR64 (by omega), ⟨rfl, by omega, by omega, e2, e3, by rw [hk, if_neg (by rw [h4]; simp), Int.add_zero], rfl, rfl, rfl, ?_⟩, by omega, rfl⟩
  ·rw [e8, e1]
   exact Sp.toL_step (by omega) (by rw [Sp.toR, hi', if_pos h4])
  ·rw [e8, e1]
   exact Sp.toL_skip (by omega) (by rw [hi']; exact h4)
 ·have : i = a.states := by omega
  subst this
  rw [e8, Nat.sub_self, Sp.zeros, List.replicate_zero, List.append_nil]
  rfl
theorem regular_Automaton_trim.l2_ok (a : Aut) (ha : Sp.okN a) : regular_Automaton_trim.l2 a := by
 rintro l m i s0 s1 s2 s3 s4 s5 s6 os ost ofin oed tl ⟨e1, e2, h3, h1, h2, e3, e4, h5⟩
 subst l m tl
 obtain ⟨k1, k2, k3, k4, k5, k6⟩ := ha
 have hT : (Sp.toA a).length = a.states.toNat := Sp.toL_len _ _
 refine ifD (fun h => ?_) fun h => ?_
 ·have hi : i.toNat < a.final.length := by omega
  have e1 : (i + 1).toNat = i.toNat + 1 := by omega
  have hf := k3 _ (nth_mem (d := (0 : Int)) hi)
  refine ⟨by omega, by omega, fun b hb => ?_⟩
  rw [e3] at hb
  rw [nth_drop (d := (0 : Int)) hi, List.filter_cons, hb, e1]
  refine ifB_of (fun h4 => ⟨by omega, ?_, inR64 (by omega), ⟨rfl, rfl, h3, by omega, by omega, e3, rfl, ?_⟩, by omega, ?_⟩) fun h4 => ⟨inR64 (by omega), ⟨rfl, rfl, h3, by omega, by omega, e3, rfl, by omega⟩, by omega, ?_⟩
  ·simp only [List.length_cons, List.length_nil]; omega
  ·simp only [List.length_append, List.length_cons, List.length_nil]; omega
  ·rw [if_pos h4, List.map_cons, List.append_assoc]; rfl
  ·rw [if_neg (by rw [h4]; simp)]
 ·rw [List.drop_eq_nil_of_le (by omega), show i = a.final.length by omega]
  simp
theorem regular_Automaton_trim.l4_ok (a : Aut) (ha : Sp.okN a) : regular_Automaton_trim.l4 a := by
 rintro l m i s0 s1 s2 s3 s4 s5 s6 os ost ofin oed tl w0 w1 w2 w3 w4 w5 w6 ⟨e1, e2, h3, h1, h2, e3, e4, e5, h5⟩
 subst l m tl
 obtain ⟨k1, k2, k3, k4, k5, k6⟩ := ha
 have hT : (Sp.toA a).length = a.states.toNat := Sp.toL_len _ _
 refine ifD (fun h => ?_) fun h => ?_
 ·have hi : i.toNat < a.edges.length := by omega
  have e1 : (i + 1).toNat = i.toNat + 1 := by omega
  obtain ⟨q1, q2, q3, q4, q5⟩ := k6 _ (nth_mem (d := default) hi)
  rw [nth_drop (d := default) hi, List.foldl_cons, e1]
  rw [e3, e4]
  generalize nth default a.edges i = e at *
  rw [Tm.eta, show Edg.mk e.src e.dst e.kind e.sym e.exc e.inner = e from rfl]
  refine ⟨by omega, ⟨by omega, fun h => by have := q4 h; omega⟩, fun b hb => ⟨fun _ => by omega, ?_⟩⟩
  have ht : Sp.tre (Sp.alive a) (Sp.reach a) (Sp.toA a) oed e = if (b && Sp.bhas (Sp.reach a) e.src) = true then (if oed.any (Sp.sameE (Sp.image (Sp.toA a) e)) then oed else oed ++ [Sp.image (Sp.toA a) e]) else oed := by rw [Sp.tre, hb]
  rw [ht]
  refine ifB_of (fun h4 => ⟨inR64 (by omega), ⟨rfl, rfl, h3, by omega, by omega, by trivial, by trivial, rfl, by omega⟩, by omega, ?_⟩) fun h4 => ⟨by omega, by omega, q5, ?_⟩
  ·have h4' : (b && Sp.bhas (Sp.reach a) e.src) = false := by
    revert h4; cases b <;> cases Sp.bhas (Sp.reach a) e.src <;> simp
   rw [h4']; rfl
  ·have h4' : (b && Sp.bhas (Sp.reach a) e.src) = true := by
    revert h4; cases b <;> cases Sp.bhas (Sp.reach a) e.src <;> simp
   rw [if_pos h4']
   refine ifD (fun h6 => ⟨by have := q4 h6; omega, ?_⟩) fun h6 => ?_
   ·have him : Edg.mk (nth 0 (Sp.toA a) e.src) (nth 0 (Sp.toA a) e.dst) e.kind e.sym e.exc (nth 0 (Sp.toA a) e.inner) = Sp.image (Sp.toA a) e := by rw [Sp.image, if_pos h6]
    rw [him]
    rintro b2 x0 x1 x2 x3 x4 x5 x6 x7 hq
    simp only [Prod.mk.injEq] at hq
    obtain ⟨hb2, g0, g1, g2, g3, g4, g5, g6, g7⟩ := hq
    have hx : Edg.mk x0 x1 x2 (Tm.mk x3 x4 x5) x6 x7 = Sp.image (Sp.toA a) e := by rw [← him, ← g0, ← g1, ← g2, ← g3, ← g4, ← g5, ← g6, ← g7, Tm.eta]
    rw [hx, hb2]
    refine ifB_of (fun h7 => ⟨?_, inR64 (by omega), ⟨rfl, rfl, h3, by omega, by omega, by trivial, by trivial, rfl, ?_⟩, by omega, ?_⟩) fun h7 => ⟨inR64 (by omega), ⟨rfl, rfl, h3, by omega, by omega, by trivial, by trivial, rfl, by omega⟩, by omega, ?_⟩
    ·simp only [List.length_cons, List.length_nil]; omega
    ·simp only [List.length_append, List.length_cons, List.length_nil]; omega
    ·have : b2 = false := by simpa using h7
     rw [this]; rfl
    ·have : b2 = true := by simpa using h7
     rw [this]; rfl
   ·have him : Edg.mk (nth 0 (Sp.toA a) e.src) (nth 0 (Sp.toA a) e.dst) e.kind e.sym e.exc 0 = Sp.image (Sp.toA a) e := by rw [Sp.image, if_neg h6]
    rw [him]
    rintro b2 x0 x1 x2 x3 x4 x5 x6 x7 hq
    simp only [Prod.mk.injEq] at hq
    obtain ⟨hb2, g0, g1, g2, g3, g4, g5, g6, g7⟩ := hq
    have hx : Edg.mk x0 x1 x2 (Tm.mk x3 x4 x5) x6 x7 = Sp.image (Sp.toA a) e := by rw [← him, ← g0, ← g1, ← g2, ← g3, ← g4, ← g5, ← g6, ← g7, Tm.eta]
    rw [hx, hb2]
    refine ifB_of (fun h7 => ⟨?_, inR64 (by omega), ⟨rfl, rfl, h3, by omega, by omega, by trivial, by trivial, rfl, ?_⟩, by omega, ?_⟩) fun h7 => ⟨inR64 (by omega), ⟨rfl, rfl, h3, by omega, by omega, by trivial, by trivial, rfl, by omega⟩, by omega, ?_⟩
    ·simp only [List.length_cons, List.length_nil]; omega
    ·simp only [List.length_append, List.length_cons, List.length_nil]; omega
    ·have : b2 = false := by simpa using h7
     rw [this]; rfl
    ·have : b2 = true := by simpa using h7
     rw [this]; rfl
 ·rw [List.drop_eq_nil_of_le (by omega), show i = a.edges.length by omega]
  rfl
theorem regular_Automaton_trim.main (a : Aut) (ha : Sp.okN a) : regular_Automaton_trim.t a := by
 have ha' := ha
 obtain ⟨k1, k2, k3, k4, k5, k6⟩ := ha
 have hT : (Sp.toA a).length = a.states.toNat := Sp.toL_len _ _
 refine ⟨fun f hf => by have := k3 f hf; omega, fun x hx => ⟨⟨Sp.okN_E ha', ?_⟩, ?_⟩⟩
 ·rw [← hx]; exact Sp.okN_F ha'
 rintro x1 n st fin ed hq
 simp only [Prod.mk.injEq] at hq
 obtain ⟨hx1, g1, g2, g3, g4⟩ := hq
 subst g1 g2 g3 g4
 have hal : Sp.alive a = x1 := by rw [← hx1, ← hx]; rfl
 refine ⟨by omega, fun b hb => ifB_of (fun h => ?_) fun h => ⟨by omega, ?_⟩⟩
 ·have : b = false := by simpa using h
  rw [Sp.rtrim, hal, hb, this]; rfl
 rintro s0 s1 s2 s3 s4 s5 s6 hq
 simp only [Prod.mk.injEq, true_and] at hq
 obtain ⟨r0, r1, r2, r3, r4, r5, r6⟩ := hq
 have hs : (⟨s0, s1, s2, s3, s4, s5, s6⟩ : Bts) = Sp.bput Sp.bz a.start := by rw [← r0, ← r1, ← r2, ← r3, ← r4, ← r5, ← r6]; rfl
 rw [hs]
 refine ⟨⟨Sp.okN_E ha', Sp.okN_S ha'⟩, ?_⟩
 rintro x2 n st fin ed w0 w1 w2 w3 w4 w5 w6 hq
 simp only [Prod.mk.injEq] at hq
 obtain ⟨hx2, g1, g2, g3, g4, g5, g6, g7, g8, g9, g10, g11⟩ := hq
 subst g1 g2 g3 g4
 have hre : x2 = Sp.reach a := by rw [← hx2, Sp.reach, hal]
 have hw : (⟨w0, w1, w2, w3, w4, w5, w6⟩ : Bts) = Sp.alive a := by rw [hal, ← g5, ← g6, ← g7, ← g8, ← g9, ← g10, ← g11]
 refine ⟨by omega, ⟨rfl, by omega, by omega, hw, hre, rfl, rfl, rfl, rfl, rfl⟩, regular_Automaton_trim.l0_ok a ha', ?_⟩
 rintro j0 u0 u1 u2 u3 u4 u5 u6 v0 v1 v2 v3 v4 v5 v6 os ost ofin oed tl hq
 simp only [LOut.brk.injEq, Prod.mk.injEq] at hq
 obtain ⟨_, c0, c1, c2, c3, c4, c5, c6, d0, d1, d2, d3, d4, d5, d6, q1, q2, q3, q4, q5⟩ := hq
 subst q1 q2 q3 q4 q5 c0 c1 c2 c3 c4 c5 c6 d0 d1 d2 d3 d4 d5 d6
 refine ⟨by omega, fun hl => ⟨⟨rfl, rfl, hl, by omega, by omega, hre, rfl, by simp⟩, regular_Automaton_trim.l2_ok a ha', ?_⟩⟩
 rintro j1 y0 y1 y2 y3 y4 y5 y6 os ost ofin oed tl hq
 simp only [LOut.brk.injEq, Prod.mk.injEq] at hq
 obtain ⟨_, c0, c1, c2, c3, c4, c5, c6, q1, q2, q3, q4, q5⟩ := hq
 subst q1 q2 q3 q4 q5 c0 c1 c2 c3 c4 c5 c6
 refine fun hl => ⟨⟨rfl, rfl, hl, by omega, by omega, hre, hw, rfl, by simp⟩, regular_Automaton_trim.l4_ok a ha', ?_⟩
 rintro j2 z0 z1 z2 z3 z4 z5 z6 os ost ofin oed tl t0 t1 t2 t3 t4 t5 t6 hq
 simp only [LOut.brk.injEq, Prod.mk.injEq] at hq
 obtain ⟨_, _, _, _, _, _, _, _, q1, q2, q3, q4, _⟩ := hq
 subst q1 q2 q3 q4
 have hbt : Sp.bhas (Sp.alive a) a.start = true := by rw [hal, hb]; simpa using h
 rw [Sp.rtrim, if_pos hbt]
 simp
theorem regular_Automaton_trim.ok (W : World) : CtrOK Go.Proofs.Tryz.prog W 32 regular_Automaton_trim.C := by
 refine funOK (Γ := lookC [(21, regular_set_has.C), (24, slices_ContainsFunc__t3.C), (45, regular_Automaton_finals.C), (66, regular_grow__alt.C), (68, regular_Edge_good.C), (69, regular_set_put.C), (71, term_Copy.C)]) (lookC_ok (fun p hp => by
  simp only [List.mem_cons, List.not_mem_nil, or_false] at hp
  rcases hp with rfl | rfl | rfl | rfl | rfl | rfl | rfl
  ·exact regular_set_has.ok W
  ·exact slices_ContainsFunc__t3.ok W
  ·exact regular_Automaton_finals.ok W
  ·exact regular_grow__alt.ok W
  ·exact regular_Edge_good.ok W
  ·exact regular_set_put.ok W
  ·exact term_Copy.ok W)) (Λ := fun a_ => match a_ with | a => (regular_Automaton_trim.Λ a)) (Λr := fun a_ => match a_ with | a => (fun _ => none)) ?_
 intro a ha
 refine Eq.mpr ?_ (@regular_Automaton_trim.main a ha)
 kernel_rfl
end Go.AL
namespace Go.AL
set_option linter.unusedVariables false
def regular_like__i.C : Ctr := TK.C
def slices_AppendSeq__i.C : Ctr := TQ.C
def slices_Collect__i.C : Ctr := TQ.CC
def slices_Grow__i.C : Ctr := TW.C 8
def slices_Grow_113__i.C : Ctr := TW.C 1
def slices_Clone__i.C (P : Program) : Ctr := inlCF P (lookC ((99998, deadC) :: [])) [] 78
def slices_Clone_81__i.C (P : Program) : Ctr := inlCF P (lookC ((99998, deadC) :: [])) [] 81
def regular_behind__i.C (P : Program) : Ctr := inlCF P (lookC [(78, (slices_Clone__i.C P))]) [6] 38
def regular_plus__i.C (P : Program) : Ctr := inlCF P (lookC [(81, (slices_Clone_81__i.C P))]) [4] 40
def regular_plus__p1.A : ElT [.lst (.int .i64), .int .i64] := ([1], 1)
def regular_plus__p1.R : ElT [.lst (.int .i64)] := [2]
def regular_plus__p2.A : ElT [.lst (.int .i64), .int .i64] := ([1], 3)
def regular_plus__p2.R : ElT [.lst (.int .i64)] := [4]
def regular_plus__p.sp (a : ElT [.lst (.int .i64), .int .i64]) : ElT [.lst (.int .i64)] := a.1.map (· + a.2)
def regular_plus__p.C : Ctr := pureCtr [.lst (.int .i64), .int .i64] [.lst (.int .i64)] (some fun b => b = regular_plus__p1.A ∨ b = regular_plus__p2.A) regular_plus__p.sp
def slices_Concat__i.C (P : Program) : Ctr := inlCF P (lookC [(82, slices_Grow__i.C)]) [] 41
def slices_Concat_79__i.C (P : Program) : Ctr := inlCF P (lookC [(113, slices_Grow_113__i.C)]) [] 79
def cmp_Less.C : Ctr := pureCtr [.int .i64, .int .i64] [.bool] none (fun (a_ : Int × Int) => match a_ with | (x, y) => (decide (x < y)))
def cmp_Less__d.C : Ctr := pureD [.int .i64, .int .i64] [.bool] none (fun (a_ : Int × Int) => match a_ with | (x, y) => (decide (x < y)))
def term_Value__d.C : Ctr := pureD [.lst (.nm 0)] [.int .i64] (some (fun (l : (List Tm)) => Sp.okL l)) (fun (l : (List Tm)) => (Sp.wrong l 4))
def regular_Check__d.C : Ctr := pureD [.nm 7] [.int .i64] (some (fun (a : Aut) => Sp.okA a)) (fun (a : Aut) => (Sp.rcheck a))
def regular_Has__d.C : Ctr := pureD [.nm 7, .lst (.nm 0)] [.bool, .int .i64] (some (fun (a_ : Aut × (List Tm)) => match a_ with | (a, v) => Sp.okA a ∧ Sp.okL v)) (fun (a_ : Aut × (List Tm)) => match a_ with | (a, v) => ((if Sp.rcheck a = 0 then (if Sp.wrong v 4 = 0 then (Sp.bhas (Sp.baccL a v) a.start, 0) else (false, Sp.wrong v 4)) else (false, Sp.rcheck a))))
def math_bits_Len64__i.C (P : Program) : Ctr := inlCF P (lookC []) [] 112
def math_bits_Len__i.C (P : Program) : Ctr := inlCF P (lookC [(112, (math_bits_Len64__i.C P))]) [] 77
def slices_insertionSortOrdered__i.C (P : Program) : Ctr := inlCF P (lookC [(108, cmp_Less__d.C)]) [] 102
def slices_pdqsortOrdered__i.C (P : Program) : Ctr := inlCF P (lookC [(102, (slices_insertionSortOrdered__i.C P))]) [] 76
def slices_Sort__i.C (P : Program) : Ctr := inlCF P (lookC [(76, (slices_pdqsortOrdered__i.C P)), (77, (math_bits_Len__i.C P))]) [] 36
def slices_Compact__i.C (P : Program) : Ctr := inlCF P (lookC []) [] 80
def regular_ascending__i.C (P : Program) : Ctr := inlCF P (lookC [(36, (slices_Sort__i.C P)), (79, (slices_Concat_79__i.C P)), (80, (slices_Compact__i.C P))]) [] 39
def regular_ascending__p.A : ElT [.lst (.lst (.int .i64))] := [[0], [2], [4]]
def regular_ascending__p.R : ElT [.lst (.int .i64)] := [0, 2, 4]
def regular_ascending__p.C : Ctr := pureCtr [.lst (.lst (.int .i64))] [.lst (.int .i64)] (some fun b => b = regular_ascending__p.A) fun _ => regular_ascending__p.R
def regular_Star_1__i.C (P : Program) : Ctr := inlCF P (lookC [(38, (regular_behind__i.C P)), (39, regular_ascending__p.C), (40, regular_plus__p.C), (41, (slices_Concat__i.C P)), (42, slices_Collect__i.C), (43, regular_like__i.C), (44, slices_AppendSeq__i.C)]) [] 37
def regular_Automaton_add__i.C (P : Program) : Ctr := inlCF P (lookC []) [] 35
def regular_Exactly_1__i.C (P : Program) : Ctr := inlCF P (lookC [(35, (regular_Automaton_add__i.C P)), (36, (slices_Sort__i.C P))]) [] 34
def regular_Automaton_trim__d.C : Ctr := pureD [.nm 7] [.nm 7] (some (fun (a : Aut) => Sp.okN a)) (fun (a : Aut) => (Sp.rtrim a))
def regular_guarded__i.R0 : List AI := [⟨(some 2), none, .new [(.int .i64 0), (.int .i64 0), (.lst 1 [] .clip), (.lst 8 [] .clip)]⟩, ⟨(some 3), none, .new [(.int .i64 0)]⟩]
def regular_guarded__i.R2 : List AI := [⟨(some 5), none, .mv (.t 0)⟩, ⟨(some 6), none, .call (.t 5) []⟩, ⟨none, none, .st 4 (.t 2) (.t 6)⟩]
def regular_guarded__i.R3 : List AI := [⟨(some 7), none, .fa 0 1 (.t 2)⟩, ⟨(some 8), none, .ld false 1 (.t 7)⟩, ⟨(some 9), none, .bin .gtr (.t 8) (.c (.int .i64 400))⟩, ⟨(some 10), none, .mv (.t 9)⟩, ⟨(some 11), (some (10, false)), .fa 3 1 (.t 2)⟩, ⟨(some 12), (some (10, false)), .ld false 1 (.t 11)⟩, ⟨(some 13), (some (10, false)), .len (.t 12)⟩, ⟨(some 14), (some (10, false)), .bin .gtr (.t 13) (.c (.int .i64 4000))⟩, ⟨(some 15), none, .pick (.t 10) (.c (.bool true)) (.t 14)⟩]
def regular_guarded__i.R5 : List AI := [⟨(some 17), none, .ld true 4 (.t 2)⟩, ⟨(some 18), none, .call (.c (.fn (.func 32) [] [])) [(.t 17)]⟩, ⟨none, none, .st 4 (.t 2) (.t 18)⟩, ⟨none, none, .st 1 (.t 3) (.c (.int .i64 0))⟩]
def regular_guarded__i.G (P : Program) : Ctx := lookC [(34, (regular_Exactly_1__i.C P)), (37, (regular_Star_1__i.C P)), (32, regular_Automaton_trim__d.C)]
def regular_guarded__i.C (P : Program) : Ctr := TD.C (regular_guarded__i.G P) 19 [.cell 2 true 4, .cell 3 false 1] regular_guarded__i.R0 regular_guarded__i.R2 regular_guarded__i.R3 (.t 15) regular_guarded__i.R5
def regular_Exactly__i.C (P : Program) : Ctr := inlCF P (lookC [(13, term_Value__d.C), (33, (regular_guarded__i.C P))]) [] 18
def regular_Exactly__p.A : ElT [.lst (.nm 0)] := [.mk 2 ⟨#[65]⟩ []]
def regular_Exactly__p.R : ElT [.nm 7, .int .i64] := (⟨2, 0, [1], [⟨0, 1, 1, .mk 2 ⟨#[65]⟩ [], [], 0⟩]⟩, 0)
def regular_Exactly__p.C : Ctr := pureCtr [.lst (.nm 0)] [.nm 7, .int .i64] (some fun b => b = regular_Exactly__p.A) fun _ => regular_Exactly__p.R
def regular_Star__i.C (P : Program) : Ctr := inlCF P (lookC [(11, regular_Check__d.C), (33, (regular_guarded__i.C P))]) [] 19
def regular_Star__p.A : ElT [.nm 7] := ⟨2, 0, [1], [⟨0, 1, 1, .mk 2 ⟨#[65]⟩ [], [], 0⟩]⟩
def regular_Star__p.R : ElT [.nm 7, .int .i64] := (⟨2, 0, [0, 1], [⟨0, 1, 1, .mk 2 ⟨#[65]⟩ [], [], 0⟩, ⟨1, 1, 1, .mk 2 ⟨#[65]⟩ [], [], 0⟩]⟩, 0)
def regular_Star__p.C : Ctr := pureCtr [.nm 7] [.nm 7, .int .i64] (some fun b => b = regular_Star__p.A) fun _ => regular_Star__p.R
def regular_Exactly__d.C : Ctr := pureD [.lst (.nm 0)] [.nm 7, .int .i64] (some fun b => b = regular_Exactly__p.A) fun _ => regular_Exactly__p.R
def regular_Star__d.C : Ctr := pureD [.nm 7] [.nm 7, .int .i64] (some fun b => b = regular_Star__p.A) fun _ => regular_Star__p.R
def l23_awake__i.C (P : Program) : Ctr := inlCF P (lookC [(8, regular_Has__d.C), (18, regular_Exactly__d.C), (19, regular_Star__d.C)]) [] 7
def l23_awake.A : ElT [] := ()
def l23_awake.R : ElT [.bool] := true
def l23_awake.C : Ctr := pureCtr [] [.bool] (some fun b => b = l23_awake.A) fun _ => l23_awake.R
end Go.AL
namespace Go.AL
set_option linter.unusedVariables false
set_option maxRecDepth 10000
def cmp_Less.t (x : Int) (y : Int) : Prop :=
 ∀ b : Bool, false=b→decide (x < y)=(b && (!false) || decide (x < y))
def regular_plus__p1.t : Prop :=
 (1 :: ([] : List Int) ≠ ([] : List Int)∧List.length (1 :: ([] : List Int))≤8589934592)∧((0 : Int)≤0∧0 < (↑(List.length (1 :: ([] : List Int))) : Int))∧inR .i64 ((1 : Int) + 1)∧((0 : Int)≤0∧0 < (↑(List.length (1 :: ([] : List Int))) : Int))∧inR .i64 ((0 : Int) + 1)∧Option.some (2 :: ([] : List Int))=Option.some (2 :: ([] : List Int))
theorem regular_plus__p1.w : ((regular_plus__i.C Go.Proofs.Tryz.prog)).run (toVs [.lst (.int .i64), .int .i64] regular_plus__p1.A) st00 (fun v _ => asTs [.lst (.int .i64)] (unT [.lst (.int .i64)] v) = some regular_plus__p1.R) = regular_plus__p1.t := by kernel_rfl
def regular_plus__p2.t : Prop :=
 (1 :: ([] : List Int) ≠ ([] : List Int)∧List.length (1 :: ([] : List Int))≤8589934592)∧((0 : Int)≤0∧0 < (↑(List.length (1 :: ([] : List Int))) : Int))∧inR .i64 ((1 : Int) + 3)∧((0 : Int)≤0∧0 < (↑(List.length (1 :: ([] : List Int))) : Int))∧inR .i64 ((0 : Int) + 1)∧Option.some (4 :: ([] : List Int))=Option.some (4 :: ([] : List Int))
theorem regular_plus__p2.w : ((regular_plus__i.C Go.Proofs.Tryz.prog)).run (toVs [.lst (.int .i64), .int .i64] regular_plus__p2.A) st00 (fun v _ => asTs [.lst (.int .i64)] (unT [.lst (.int .i64)] v) = some regular_plus__p2.R) = regular_plus__p2.t := by kernel_rfl
def regular_ascending__p.t : Prop :=
 List.length ((0 :: ([] : List Int)) :: (2 :: ([] : List Int)) :: (4 :: ([] : List Int)) :: ([] : List (List Int))) < 9223372036854775808→((0 : Int)≤0∧0 < (↑(List.length ((0 :: ([] : List Int)) :: (2 :: ([] : List Int)) :: (4 :: ([] : List Int)) :: ([] : List (List Int)))) : Int))∧(List.length (0 :: ([] : List Int)) < 9223372036854775808→inR .i64 ((0 : Int) + 1)∧inR .i64 ((0 : Int) + 1)∧((0 : Int)≤1∧1 < (↑(List.length ((0 :: ([] : List Int)) :: (2 :: ([] : List Int)) :: (4 :: ([] : List Int)) :: ([] : List (List Int)))) : Int))∧(List.length (2 :: ([] : List Int)) < 9223372036854775808→inR .i64 ((1 : Int) + 1)∧inR .i64 ((1 : Int) + 1)∧((0 : Int)≤2∧2 < (↑(List.length ((0 :: ([] : List Int)) :: (2 :: ([] : List Int)) :: (4 :: ([] : List Int)) :: ([] : List (List Int)))) : Int))∧(List.length (4 :: ([] : List Int)) < 9223372036854775808→inR .i64 ((2 : Int) + 1)∧inR .i64 ((2 : Int) + 1)∧((0 : Int)≤3∧(3 : Int)≤8589934592)∧(List.length ((0 :: ([] : List Int)) :: (2 :: ([] : List Int)) :: (4 :: ([] : List Int)) :: ([] : List (List Int))) < 9223372036854775808→((0 : Int)≤0∧0 < (↑(List.length ((0 :: ([] : List Int)) :: (2 :: ([] : List Int)) :: (4 :: ([] : List Int)) :: ([] : List (List Int)))) : Int))∧List.length ([] : List Int) + List.length (0 :: ([] : List Int))≤8589934592∧inR .i64 ((0 : Int) + 1)∧((0 : Int)≤1∧1 < (↑(List.length ((0 :: ([] : List Int)) :: (2 :: ([] : List Int)) :: (4 :: ([] : List Int)) :: ([] : List (List Int)))) : Int))∧List.length (0 :: ([] : List Int)) + List.length (2 :: ([] : List Int))≤8589934592∧inR .i64 ((1 : Int) + 1)∧((0 : Int)≤2∧2 < (↑(List.length ((0 :: ([] : List Int)) :: (2 :: ([] : List Int)) :: (4 :: ([] : List Int)) :: ([] : List (List Int)))) : Int))∧List.length (0 :: 2 :: ([] : List Int)) + List.length (4 :: ([] : List Int))≤8589934592∧inR .i64 ((2 : Int) + 1)∧(List.length (0 :: 2 :: 4 :: ([] : List Int)) < 9223372036854775808→inR .u64 3∧inR .u8 3∧((0 : Int)≤3∧3 < (↑(ByteArray.size (⟨#[0, 1, 2, 2, 3, 3, 3, 3, 4, 4, 4, 4, 4, 4, 4, 4, 5, 5, 5, 5, 5, 5, 5, 5, 5, 5, 5, 5, 5, 5, 5, 5, 6, 6, 6, 6, 6, 6, 6, 6, 6, 6, 6, 6, 6, 6, 6, 6, 6, 6, 6, 6, 6, 6, 6, 6, 6, 6, 6, 6, 6, 6, 6, 6, 7, 7, 7, 7, 7, 7, 7, 7, 7, 7, 7, 7, 7, 7, 7, 7, 7, 7, 7, 7, 7, 7, 7, 7, 7, 7, 7, 7, 7, 7, 7, 7, 7, 7, 7, 7, 7, 7, 7, 7, 7, 7, 7, 7, 7, 7, 7, 7, 7, 7, 7, 7, 7, 7, 7, 7, 7, 7, 7, 7, 7, 7, 7, 7, 8, 8, 8, 8, 8, 8, 8, 8, 8, 8, 8, 8, 8, 8, 8, 8, 8, 8, 8, 8, 8, 8, 8, 8, 8, 8, 8, 8, 8, 8, 8, 8, 8, 8, 8, 8, 8, 8, 8, 8, 8, 8, 8, 8, 8, 8, 8, 8, 8, 8, 8, 8, 8, 8, 8, 8, 8, 8, 8, 8, 8, 8, 8, 8, 8, 8, 8, 8, 8, 8, 8, 8, 8, 8, 8, 8, 8, 8, 8, 8, 8, 8, 8, 8, 8, 8, 8, 8, 8, 8, 8, 8, 8, 8, 8, 8, 8, 8, 8, 8, 8, 8, 8, 8, 8, 8, 8, 8, 8, 8, 8, 8, 8, 8, 8, 8, 8, 8, 8, 8, 8, 8, 8, 8, 8, 8, 8, 8]⟩ : ByteArray)) : Int))∧inR .i64 2∧inR .i64 ((0 : Int) + 2)∧inR .i64 ((3 : Int) - 0)∧inR .i64 ((0 : Int) + 1)∧(true=true→(0 : Int)≤1∧1 < (↑(List.length (0 :: 2 :: 4 :: ([] : List Int))) : Int))∧(true=true→inR .i64 ((1 : Int) - 1))∧(true=true→(0 : Int)≤0∧0 < (↑(List.length (0 :: 2 :: 4 :: ([] : List Int))) : Int))∧inR .i64 ((1 : Int) + 1)∧(true=true→(0 : Int)≤2∧2 < (↑(List.length (0 :: 2 :: 4 :: ([] : List Int))) : Int))∧(true=true→inR .i64 ((2 : Int) - 1))∧(true=true→(0 : Int)≤1∧1 < (↑(List.length (0 :: 2 :: 4 :: ([] : List Int))) : Int))∧inR .i64 ((2 : Int) + 1)∧(List.length (0 :: 2 :: 4 :: ([] : List Int)) < 9223372036854775808→List.length (0 :: 2 :: 4 :: ([] : List Int)) < 9223372036854775808→((0 : Int)≤1∧1 < (↑(List.length (0 :: 2 :: 4 :: ([] : List Int))) : Int))∧inR .i64 ((1 : Int) - 1)∧((0 : Int)≤0∧0 < (↑(List.length (0 :: 2 :: 4 :: ([] : List Int))) : Int))∧inR .i64 ((1 : Int) + 1)∧(List.length (0 :: 2 :: 4 :: ([] : List Int)) < 9223372036854775808→((0 : Int)≤2∧2 < (↑(List.length (0 :: 2 :: 4 :: ([] : List Int))) : Int))∧inR .i64 ((2 : Int) - 1)∧((0 : Int)≤1∧1 < (↑(List.length (0 :: 2 :: 4 :: ([] : List Int))) : Int))∧inR .i64 ((2 : Int) + 1)∧(List.length (0 :: 2 :: 4 :: ([] : List Int)) < 9223372036854775808→Option.some (0 :: 2 :: 4 :: ([] : List Int))=Option.some (0 :: 2 :: 4 :: ([] : List Int))))))))))
theorem regular_ascending__p.w : ((regular_ascending__i.C Go.Proofs.Tryz.prog)).run (toVs [.lst (.lst (.int .i64))] regular_ascending__p.A) st00 (fun v _ => asTs [.lst (.int .i64)] (unT [.lst (.int .i64)] v) = some regular_ascending__p.R) = regular_ascending__p.t := by kernel_rfl
def regular_Exactly__p.t : Prop :=
 Sp.okL (Tm.mk 2 (⟨#[65]⟩ : ByteArray) ([] : List Tm) :: ([] : List Tm))∧(List.length (Tm.mk 2 (⟨#[65]⟩ : ByteArray) ([] : List Tm) :: ([] : List Tm)) < 9223372036854775808→inR .i64 ((1 : Int) + 1)∧inR .i64 ((0 : Int) + 2)∧(List.length (Tm.mk 2 (⟨#[65]⟩ : ByteArray) ([] : List Tm) :: ([] : List Tm)) < 9223372036854775808→inR .i64 ((0 : Int) + 1)∧(List.length (Tm.mk 2 (⟨#[65]⟩ : ByteArray) ([] : List Tm) :: ([] : List Tm)) < 9223372036854775808→((0 : Int)≤0∧0 < (↑(List.length (Tm.mk 2 (⟨#[65]⟩ : ByteArray) ([] : List Tm) :: ([] : List Tm))) : Int))∧inR .i64 ((0 : Int) + 0)∧inR .i64 ((0 : Int) + 0)∧inR .i64 ((0 : Int) + 1)∧inR .i64 ((0 : Int) + 1)∧inR .u64 1∧inR .u8 1∧((0 : Int)≤1∧1 < (↑(ByteArray.size (⟨#[0, 1, 2, 2, 3, 3, 3, 3, 4, 4, 4, 4, 4, 4, 4, 4, 5, 5, 5, 5, 5, 5, 5, 5, 5, 5, 5, 5, 5, 5, 5, 5, 6, 6, 6, 6, 6, 6, 6, 6, 6, 6, 6, 6, 6, 6, 6, 6, 6, 6, 6, 6, 6, 6, 6, 6, 6, 6, 6, 6, 6, 6, 6, 6, 7, 7, 7, 7, 7, 7, 7, 7, 7, 7, 7, 7, 7, 7, 7, 7, 7, 7, 7, 7, 7, 7, 7, 7, 7, 7, 7, 7, 7, 7, 7, 7, 7, 7, 7, 7, 7, 7, 7, 7, 7, 7, 7, 7, 7, 7, 7, 7, 7, 7, 7, 7, 7, 7, 7, 7, 7, 7, 7, 7, 7, 7, 7, 7, 8, 8, 8, 8, 8, 8, 8, 8, 8, 8, 8, 8, 8, 8, 8, 8, 8, 8, 8, 8, 8, 8, 8, 8, 8, 8, 8, 8, 8, 8, 8, 8, 8, 8, 8, 8, 8, 8, 8, 8, 8, 8, 8, 8, 8, 8, 8, 8, 8, 8, 8, 8, 8, 8, 8, 8, 8, 8, 8, 8, 8, 8, 8, 8, 8, 8, 8, 8, 8, 8, 8, 8, 8, 8, 8, 8, 8, 8, 8, 8, 8, 8, 8, 8, 8, 8, 8, 8, 8, 8, 8, 8, 8, 8, 8, 8, 8, 8, 8, 8, 8, 8, 8, 8, 8, 8, 8, 8, 8, 8, 8, 8, 8, 8, 8, 8, 8, 8, 8, 8, 8, 8, 8, 8, 8, 8, 8, 8]⟩ : ByteArray)) : Int))∧inR .i64 1∧inR .i64 ((0 : Int) + 1)∧inR .i64 ((1 : Int) - 0)∧inR .i64 ((0 : Int) + 1)∧Sp.okN (Aut.mk 2 0 (1 :: ([] : List Int)) (Edg.mk 0 1 1 (Tm.mk 2 (⟨#[65]⟩ : ByteArray) ([] : List Tm)) ([] : List Tm) 0 :: ([] : List Edg)))∧Option.some (Aut.mk 2 0 (1 :: ([] : List Int)) (Edg.mk 0 1 1 (Tm.mk 2 (⟨#[65]⟩ : ByteArray) ([] : List Tm)) ([] : List Tm) 0 :: ([] : List Edg)), (0 : Int))=Option.some (Aut.mk 2 0 (1 :: ([] : List Int)) (Edg.mk 0 1 1 (Tm.mk 2 (⟨#[65]⟩ : ByteArray) ([] : List Tm)) ([] : List Tm) 0 :: ([] : List Edg)), (0 : Int)))))
theorem regular_Exactly__p.w : ((regular_Exactly__i.C Go.Proofs.Tryz.prog)).run (toVs [.lst (.nm 0)] regular_Exactly__p.A) st00 (fun v _ => asTs [.nm 7, .int .i64] (unT [.nm 7, .int .i64] v) = some regular_Exactly__p.R) = regular_Exactly__p.t := by kernel_rfl
def regular_Star__p.t : Prop :=
 Sp.okA (Aut.mk 2 0 (1 :: ([] : List Int)) (Edg.mk 0 1 1 (Tm.mk 2 (⟨#[65]⟩ : ByteArray) ([] : List Tm)) ([] : List Tm) 0 :: ([] : List Edg)))∧inR .i64 ((2 : Int) + 1)∧(Edg.mk 0 1 1 (Tm.mk 2 (⟨#[65]⟩ : ByteArray) ([] : List Tm)) ([] : List Tm) 0 :: ([] : List Edg) ≠ ([] : List Edg)∧List.length (Edg.mk 0 1 1 (Tm.mk 2 (⟨#[65]⟩ : ByteArray) ([] : List Tm)) ([] : List Tm) 0 :: ([] : List Edg))≤8589934592)∧((0 : Int)≤0∧0 < (↑(List.length (Edg.mk 0 1 1 (Tm.mk 2 (⟨#[65]⟩ : ByteArray) ([] : List Tm)) ([] : List Tm) 0 :: ([] : List Edg))) : Int))∧inR .i64 ((0 : Int) + 1)∧((0 : Int)≤0∧0 < (↑(List.length (Edg.mk 0 1 1 (Tm.mk 2 (⟨#[65]⟩ : ByteArray) ([] : List Tm)) ([] : List Tm) 0 :: ([] : List Edg))) : Int))∧((0 : Int)≤0∧0 < (↑(List.length (Edg.mk 1 1 1 (Tm.mk 2 (⟨#[65]⟩ : ByteArray) ([] : List Tm)) ([] : List Tm) 0 :: ([] : List Edg))) : Int))∧inR .i64 ((1 : Int) + 1)∧((0 : Int)≤0∧0 < (↑(List.length (Edg.mk 1 1 1 (Tm.mk 2 (⟨#[65]⟩ : ByteArray) ([] : List Tm)) ([] : List Tm) 0 :: ([] : List Edg))) : Int))∧((0 : Int)≤0∧0 < (↑(List.length (Edg.mk 1 2 1 (Tm.mk 2 (⟨#[65]⟩ : ByteArray) ([] : List Tm)) ([] : List Tm) 0 :: ([] : List Edg))) : Int))∧inR .i64 ((0 : Int) + 1)∧inR .i64 ((2 : Int) * 2)∧inR .i64 ((4 : Int) + 1)∧((1 :: ([] : List Int), (1 : Int))=(1 :: ([] : List Int), (1 : Int)) ∨ (1 :: ([] : List Int), (1 : Int))=(1 :: ([] : List Int), (3 : Int)))∧inR .i64 ((2 : Int) + 1)∧((1 :: ([] : List Int), (3 : Int))=(1 :: ([] : List Int), (1 : Int)) ∨ (1 :: ([] : List Int), (3 : Int))=(1 :: ([] : List Int), (3 : Int)))∧(0 :: ([] : List Int)) :: (2 :: ([] : List Int)) :: (4 :: ([] : List Int)) :: ([] : List (List Int))=(0 :: ([] : List Int)) :: (2 :: ([] : List Int)) :: (4 :: ([] : List Int)) :: ([] : List (List Int))∧inR .i64 ((0 : Int) + 1)∧List.length (Edg.mk 0 2 1 (Tm.mk 2 (⟨#[65]⟩ : ByteArray) ([] : List Tm)) ([] : List Tm) 0 :: ([] : List Edg))≤8589934592∧inR .i64 ((2 : Int) + 1)∧inR .i64 ((2 : Int) + 1)∧(Edg.mk 0 1 1 (Tm.mk 2 (⟨#[65]⟩ : ByteArray) ([] : List Tm)) ([] : List Tm) 0 :: ([] : List Edg) ≠ ([] : List Edg)∧List.length (Edg.mk 0 1 1 (Tm.mk 2 (⟨#[65]⟩ : ByteArray) ([] : List Tm)) ([] : List Tm) 0 :: ([] : List Edg))≤8589934592)∧((0 : Int)≤0∧0 < (↑(List.length (Edg.mk 0 1 1 (Tm.mk 2 (⟨#[65]⟩ : ByteArray) ([] : List Tm)) ([] : List Tm) 0 :: ([] : List Edg))) : Int))∧inR .i64 ((0 : Int) + 3)∧((0 : Int)≤0∧0 < (↑(List.length (Edg.mk 0 1 1 (Tm.mk 2 (⟨#[65]⟩ : ByteArray) ([] : List Tm)) ([] : List Tm) 0 :: ([] : List Edg))) : Int))∧((0 : Int)≤0∧0 < (↑(List.length (Edg.mk 3 1 1 (Tm.mk 2 (⟨#[65]⟩ : ByteArray) ([] : List Tm)) ([] : List Tm) 0 :: ([] : List Edg))) : Int))∧inR .i64 ((1 : Int) + 3)∧((0 : Int)≤0∧0 < (↑(List.length (Edg.mk 3 1 1 (Tm.mk 2 (⟨#[65]⟩ : ByteArray) ([] : List Tm)) ([] : List Tm) 0 :: ([] : List Edg))) : Int))∧((0 : Int)≤0∧0 < (↑(List.length (Edg.mk 3 4 1 (Tm.mk 2 (⟨#[65]⟩ : ByteArray) ([] : List Tm)) ([] : List Tm) 0 :: ([] : List Edg))) : Int))∧inR .i64 ((0 : Int) + 1)∧((0 : Int)≤0∧0 < (↑(List.length ((Edg.mk 0 2 1 (Tm.mk 2 (⟨#[65]⟩ : ByteArray) ([] : List Tm)) ([] : List Tm) 0 :: ([] : List Edg)) :: (Edg.mk 1 2 1 (Tm.mk 2 (⟨#[65]⟩ : ByteArray) ([] : List Tm)) ([] : List Tm) 0 :: ([] : List Edg)) :: (Edg.mk 3 4 1 (Tm.mk 2 (⟨#[65]⟩ : ByteArray) ([] : List Tm)) ([] : List Tm) 0 :: ([] : List Edg)) :: ([] : List (List Edg)))) : Int))∧(List.length (Edg.mk 0 2 1 (Tm.mk 2 (⟨#[65]⟩ : ByteArray) ([] : List Tm)) ([] : List Tm) 0 :: ([] : List Edg)) < 9223372036854775808→inR .i64 ((0 : Int) + 1)∧inR .i64 ((0 : Int) + 1)∧((0 : Int)≤1∧1 < (↑(List.length ((Edg.mk 0 2 1 (Tm.mk 2 (⟨#[65]⟩ : ByteArray) ([] : List Tm)) ([] : List Tm) 0 :: ([] : List Edg)) :: (Edg.mk 1 2 1 (Tm.mk 2 (⟨#[65]⟩ : ByteArray) ([] : List Tm)) ([] : List Tm) 0 :: ([] : List Edg)) :: (Edg.mk 3 4 1 (Tm.mk 2 (⟨#[65]⟩ : ByteArray) ([] : List Tm)) ([] : List Tm) 0 :: ([] : List Edg)) :: ([] : List (List Edg)))) : Int))∧(List.length (Edg.mk 1 2 1 (Tm.mk 2 (⟨#[65]⟩ : ByteArray) ([] : List Tm)) ([] : List Tm) 0 :: ([] : List Edg)) < 9223372036854775808→inR .i64 ((1 : Int) + 1)∧inR .i64 ((1 : Int) + 1)∧((0 : Int)≤2∧2 < (↑(List.length ((Edg.mk 0 2 1 (Tm.mk 2 (⟨#[65]⟩ : ByteArray) ([] : List Tm)) ([] : List Tm) 0 :: ([] : List Edg)) :: (Edg.mk 1 2 1 (Tm.mk 2 (⟨#[65]⟩ : ByteArray) ([] : List Tm)) ([] : List Tm) 0 :: ([] : List Edg)) :: (Edg.mk 3 4 1 (Tm.mk 2 (⟨#[65]⟩ : ByteArray) ([] : List Tm)) ([] : List Tm) 0 :: ([] : List Edg)) :: ([] : List (List Edg)))) : Int))∧(List.length (Edg.mk 3 4 1 (Tm.mk 2 (⟨#[65]⟩ : ByteArray) ([] : List Tm)) ([] : List Tm) 0 :: ([] : List Edg)) < 9223372036854775808→inR .i64 ((2 : Int) + 1)∧inR .i64 ((2 : Int) + 1)∧((0 : Int)≤3∧(3 : Int)≤8589934592)∧((0 : Int)≤0∧0 < (↑(List.length ((Edg.mk 0 2 1 (Tm.mk 2 (⟨#[65]⟩ : ByteArray) ([] : List Tm)) ([] : List Tm) 0 :: ([] : List Edg)) :: (Edg.mk 1 2 1 (Tm.mk 2 (⟨#[65]⟩ : ByteArray) ([] : List Tm)) ([] : List Tm) 0 :: ([] : List Edg)) :: (Edg.mk 3 4 1 (Tm.mk 2 (⟨#[65]⟩ : ByteArray) ([] : List Tm)) ([] : List Tm) 0 :: ([] : List Edg)) :: ([] : List (List Edg)))) : Int))∧List.length ([] : List Edg) + List.length (Edg.mk 0 2 1 (Tm.mk 2 (⟨#[65]⟩ : ByteArray) ([] : List Tm)) ([] : List Tm) 0 :: ([] : List Edg))≤8589934592∧inR .i64 ((0 : Int) + 1)∧((0 : Int)≤1∧1 < (↑(List.length ((Edg.mk 0 2 1 (Tm.mk 2 (⟨#[65]⟩ : ByteArray) ([] : List Tm)) ([] : List Tm) 0 :: ([] : List Edg)) :: (Edg.mk 1 2 1 (Tm.mk 2 (⟨#[65]⟩ : ByteArray) ([] : List Tm)) ([] : List Tm) 0 :: ([] : List Edg)) :: (Edg.mk 3 4 1 (Tm.mk 2 (⟨#[65]⟩ : ByteArray) ([] : List Tm)) ([] : List Tm) 0 :: ([] : List Edg)) :: ([] : List (List Edg)))) : Int))∧List.length (Edg.mk 0 2 1 (Tm.mk 2 (⟨#[65]⟩ : ByteArray) ([] : List Tm)) ([] : List Tm) 0 :: ([] : List Edg)) + List.length (Edg.mk 1 2 1 (Tm.mk 2 (⟨#[65]⟩ : ByteArray) ([] : List Tm)) ([] : List Tm) 0 :: ([] : List Edg))≤8589934592∧inR .i64 ((1 : Int) + 1)∧((0 : Int)≤2∧2 < (↑(List.length ((Edg.mk 0 2 1 (Tm.mk 2 (⟨#[65]⟩ : ByteArray) ([] : List Tm)) ([] : List Tm) 0 :: ([] : List Edg)) :: (Edg.mk 1 2 1 (Tm.mk 2 (⟨#[65]⟩ : ByteArray) ([] : List Tm)) ([] : List Tm) 0 :: ([] : List Edg)) :: (Edg.mk 3 4 1 (Tm.mk 2 (⟨#[65]⟩ : ByteArray) ([] : List Tm)) ([] : List Tm) 0 :: ([] : List Edg)) :: ([] : List (List Edg)))) : Int))∧List.length (Edg.mk 0 2 1 (Tm.mk 2 (⟨#[65]⟩ : ByteArray) ([] : List Tm)) ([] : List Tm) 0 :: Edg.mk 1 2 1 (Tm.mk 2 (⟨#[65]⟩ : ByteArray) ([] : List Tm)) ([] : List Tm) 0 :: ([] : List Edg)) + List.length (Edg.mk 3 4 1 (Tm.mk 2 (⟨#[65]⟩ : ByteArray) ([] : List Tm)) ([] : List Tm) 0 :: ([] : List Edg))≤8589934592∧inR .i64 ((2 : Int) + 1)∧(List.length (1 :: ([] : List Int)) < 9223372036854775808→((0 : Int)≤0∧0 < (↑(List.length (1 :: ([] : List Int))) : Int))∧inR .i64 ((1 : Int) + 1)∧inR .i64 ((0 : Int) + 1)∧List.length (Edg.mk 0 2 1 (Tm.mk 2 (⟨#[65]⟩ : ByteArray) ([] : List Tm)) ([] : List Tm) 0 :: Edg.mk 1 2 1 (Tm.mk 2 (⟨#[65]⟩ : ByteArray) ([] : List Tm)) ([] : List Tm) 0 :: Edg.mk 3 4 1 (Tm.mk 2 (⟨#[65]⟩ : ByteArray) ([] : List Tm)) ([] : List Tm) 0 :: ([] : List Edg)) + List.length (Edg.mk 2 2 1 (Tm.mk 2 (⟨#[65]⟩ : ByteArray) ([] : List Tm)) ([] : List Tm) 0 :: ([] : List Edg))≤8589934592∧inR .i64 ((0 : Int) + 1)∧Sp.okN (Aut.mk 5 0 (0 :: 2 :: 4 :: ([] : List Int)) (Edg.mk 0 2 1 (Tm.mk 2 (⟨#[65]⟩ : ByteArray) ([] : List Tm)) ([] : List Tm) 0 :: Edg.mk 1 2 1 (Tm.mk 2 (⟨#[65]⟩ : ByteArray) ([] : List Tm)) ([] : List Tm) 0 :: Edg.mk 3 4 1 (Tm.mk 2 (⟨#[65]⟩ : ByteArray) ([] : List Tm)) ([] : List Tm) 0 :: Edg.mk 2 2 1 (Tm.mk 2 (⟨#[65]⟩ : ByteArray) ([] : List Tm)) ([] : List Tm) 0 :: ([] : List Edg)))∧Option.some (Aut.mk 2 0 (0 :: 1 :: ([] : List Int)) (Edg.mk 0 1 1 (Tm.mk 2 (⟨#[65]⟩ : ByteArray) ([] : List Tm)) ([] : List Tm) 0 :: Edg.mk 1 1 1 (Tm.mk 2 (⟨#[65]⟩ : ByteArray) ([] : List Tm)) ([] : List Tm) 0 :: ([] : List Edg)), (0 : Int))=Option.some (Aut.mk 2 0 (0 :: 1 :: ([] : List Int)) (Edg.mk 0 1 1 (Tm.mk 2 (⟨#[65]⟩ : ByteArray) ([] : List Tm)) ([] : List Tm) 0 :: Edg.mk 1 1 1 (Tm.mk 2 (⟨#[65]⟩ : ByteArray) ([] : List Tm)) ([] : List Tm) 0 :: ([] : List Edg)), (0 : Int))))))
theorem regular_Star__p.w : ((regular_Star__i.C Go.Proofs.Tryz.prog)).run (toVs [.nm 7] regular_Star__p.A) st00 (fun v _ => asTs [.nm 7, .int .i64] (unT [.nm 7, .int .i64] v) = some regular_Star__p.R) = regular_Star__p.t := by kernel_rfl
def l23_awake.t : Prop :=
 Tm.mk 2 (⟨#[65]⟩ : ByteArray) ([] : List Tm) :: ([] : List Tm)=Tm.mk 2 (⟨#[65]⟩ : ByteArray) ([] : List Tm) :: ([] : List Tm)∧Aut.mk 2 0 (1 :: ([] : List Int)) (Edg.mk 0 1 1 (Tm.mk 2 (⟨#[65]⟩ : ByteArray) ([] : List Tm)) ([] : List Tm) 0 :: ([] : List Edg))=Aut.mk 2 0 (1 :: ([] : List Int)) (Edg.mk 0 1 1 (Tm.mk 2 (⟨#[65]⟩ : ByteArray) ([] : List Tm)) ([] : List Tm) 0 :: ([] : List Edg))∧(Sp.okA (Aut.mk 2 0 (0 :: 1 :: ([] : List Int)) (Edg.mk 0 1 1 (Tm.mk 2 (⟨#[65]⟩ : ByteArray) ([] : List Tm)) ([] : List Tm) 0 :: Edg.mk 1 1 1 (Tm.mk 2 (⟨#[65]⟩ : ByteArray) ([] : List Tm)) ([] : List Tm) 0 :: ([] : List Edg)))∧Sp.okL (Tm.mk 2 (⟨#[65]⟩ : ByteArray) ([] : List Tm) :: Tm.mk 2 (⟨#[65]⟩ : ByteArray) ([] : List Tm) :: ([] : List Tm)))∧Option.some true=Option.some true
theorem l23_awake.w : ((l23_awake__i.C Go.Proofs.Tryz.prog)).run (toVs [] l23_awake.A) st00 (fun v _ => asTs [.bool] (unT [.bool] v) = some l23_awake.R) = l23_awake.t := by kernel_rfl
end Go.AL
namespace Go.AL
set_option linter.unusedVariables false
set_option linter.unusedSimpArgs false
set_option maxRecDepth 10000
attribute [local irreducible] wpF wpFX wpM wpFM
theorem regular_like__i.ok (W : World) : CtrOK Go.Proofs.Tryz.prog W 43 regular_like__i.C := TK.ok (g := 83) (by kernel_rfl) (by kernel_rfl)
theorem slices_AppendSeq__i.ok (W : World) : CtrOK Go.Proofs.Tryz.prog W 44 slices_AppendSeq__i.C := TQ.ok (by kernel_rfl)
theorem slices_Collect__i.ok (W : World) : CtrOK Go.Proofs.Tryz.prog W 42 slices_Collect__i.C := TQ.okC (f := 44) (by kernel_rfl) (by kernel_rfl)
theorem slices_Grow__i.ok (W : World) : CtrOK Go.Proofs.Tryz.prog W 82 slices_Grow__i.C := TW.ok (by kernel_rfl)
theorem slices_Grow_113__i.ok (W : World) : CtrOK Go.Proofs.Tryz.prog W 113 slices_Grow_113__i.C := TW.ok (by kernel_rfl)
theorem slices_Clone__i.ok (W : World) : CtrOK Go.Proofs.Tryz.prog W 78 (slices_Clone__i.C Go.Proofs.Tryz.prog) := by
 exact inlCF_ok (lookC_ok (fun p hp => by
  simp only [List.mem_cons, List.not_mem_nil, or_false] at hp
  subst hp; exact deadC_ok))
theorem slices_Clone_81__i.ok (W : World) : CtrOK Go.Proofs.Tryz.prog W 81 (slices_Clone_81__i.C Go.Proofs.Tryz.prog) := by
 exact inlCF_ok (lookC_ok (fun p hp => by
  simp only [List.mem_cons, List.not_mem_nil, or_false] at hp
  subst hp; exact deadC_ok))
theorem regular_behind__i.ok (W : World) : CtrOK Go.Proofs.Tryz.prog W 38 (regular_behind__i.C Go.Proofs.Tryz.prog) := by
 exact inlCF_ok (lookC_ok (fun p hp => by
  simp only [List.mem_cons, List.not_mem_nil, or_false] at hp
  subst hp; exact slices_Clone__i.ok W))
theorem regular_plus__i.ok (W : World) : CtrOK Go.Proofs.Tryz.prog W 40 (regular_plus__i.C Go.Proofs.Tryz.prog) := by
 exact inlCF_ok (lookC_ok (fun p hp => by
  simp only [List.mem_cons, List.not_mem_nil, or_false] at hp
  subst hp; exact slices_Clone_81__i.ok W))
set_option maxHeartbeats 8000000 in
theorem regular_plus__p1.main : regular_plus__p1.t := by
 repeat' (first | exact rfl | trivial | decide | (refine And.intro ?_ ?_) | intro _)
set_option maxHeartbeats 8000000 in
theorem regular_plus__p2.main : regular_plus__p2.t := by
 repeat' (first | exact rfl | trivial | decide | (refine And.intro ?_ ?_) | intro _)
theorem regular_plus__p.ok (W : World) : CtrOK Go.Proofs.Tryz.prog W 40 regular_plus__p.C :=
 point2_ok (regular_plus__i.ok W) regular_plus__p1.A regular_plus__p2.A regular_plus__p.sp (by simp) (Eq.mpr regular_plus__p1.w regular_plus__p1.main) (Eq.mpr regular_plus__p2.w regular_plus__p2.main)
theorem slices_Concat__i.ok (W : World) : CtrOK Go.Proofs.Tryz.prog W 41 (slices_Concat__i.C Go.Proofs.Tryz.prog) := by
 exact inlCF_ok (lookC_ok (fun p hp => by
  simp only [List.mem_cons, List.not_mem_nil, or_false] at hp
  subst hp; exact slices_Grow__i.ok W))
theorem slices_Concat_79__i.ok (W : World) : CtrOK Go.Proofs.Tryz.prog W 79 (slices_Concat_79__i.C Go.Proofs.Tryz.prog) := by
 exact inlCF_ok (lookC_ok (fun p hp => by
  simp only [List.mem_cons, List.not_mem_nil, or_false] at hp
  subst hp; exact slices_Grow_113__i.ok W))
theorem cmp_Less.main (x y : Int) : cmp_Less.t x y := by
 simp [cmp_Less.t]
theorem cmp_Less.ok (W : World) : CtrOK Go.Proofs.Tryz.prog W 108 cmp_Less.C := by
 refine funOK (Γ := lookC [(128, cmp_isNaN.C)]) (lookC_ok (fun p hp => by
  simp only [List.mem_cons, List.not_mem_nil, or_false] at hp
  subst hp; exact cmp_isNaN.ok W)) (Λ := fun a_ => match a_ with | (x, y) => (fun _ => none)) (Λr := fun a_ => match a_ with | (x, y) => (fun _ => none)) ?_
 intro a ha
 obtain ⟨x, y⟩ := a
 refine Eq.mpr ?_ (@cmp_Less.main x y)
 kernel_rfl
theorem cmp_Less__d.ok (W : World) : CtrOK Go.Proofs.Tryz.prog W 108 cmp_Less__d.C := pureD_ok (cmp_Less.ok W)
theorem term_Value__d.ok (W : World) : CtrOK Go.Proofs.Tryz.prog W 13 term_Value__d.C := pureD_ok (term_Value.ok W)
theorem regular_Check__d.ok (W : World) : CtrOK Go.Proofs.Tryz.prog W 11 regular_Check__d.C := pureD_ok (regular_Check.ok W)
theorem regular_Has__d.ok (W : World) : CtrOK Go.Proofs.Tryz.prog W 8 regular_Has__d.C := pureD_ok (regular_Has.ok W)
theorem math_bits_Len64__i.ok (W : World) : CtrOK Go.Proofs.Tryz.prog W 112 (math_bits_Len64__i.C Go.Proofs.Tryz.prog) := by
 exact inlCF_ok (lookC_ok (fun p hp => by cases hp))
theorem math_bits_Len__i.ok (W : World) : CtrOK Go.Proofs.Tryz.prog W 77 (math_bits_Len__i.C Go.Proofs.Tryz.prog) := by
 exact inlCF_ok (lookC_ok (fun p hp => by
  simp only [List.mem_cons, List.not_mem_nil, or_false] at hp
  subst hp; exact math_bits_Len64__i.ok W))
theorem slices_insertionSortOrdered__i.ok (W : World) : CtrOK Go.Proofs.Tryz.prog W 102 (slices_insertionSortOrdered__i.C Go.Proofs.Tryz.prog) := by
 exact inlCF_ok (lookC_ok (fun p hp => by
  simp only [List.mem_cons, List.not_mem_nil, or_false] at hp
  subst hp; exact cmp_Less__d.ok W))
theorem slices_pdqsortOrdered__i.ok (W : World) : CtrOK Go.Proofs.Tryz.prog W 76 (slices_pdqsortOrdered__i.C Go.Proofs.Tryz.prog) := by
 exact inlCF_ok (lookC_ok (fun p hp => by
  simp only [List.mem_cons, List.not_mem_nil, or_false] at hp
  subst hp; exact slices_insertionSortOrdered__i.ok W))
theorem slices_Sort__i.ok (W : World) : CtrOK Go.Proofs.Tryz.prog W 36 (slices_Sort__i.C Go.Proofs.Tryz.prog) := by
 exact inlCF_ok (lookC_ok (fun p hp => by
  simp only [List.mem_cons, List.not_mem_nil, or_false] at hp
  rcases hp with rfl | rfl
  ·exact slices_pdqsortOrdered__i.ok W
  ·exact math_bits_Len__i.ok W))
theorem slices_Compact__i.ok (W : World) : CtrOK Go.Proofs.Tryz.prog W 80 (slices_Compact__i.C Go.Proofs.Tryz.prog) := by
 exact inlCF_ok (lookC_ok (fun p hp => by cases hp))
theorem regular_ascending__i.ok (W : World) : CtrOK Go.Proofs.Tryz.prog W 39 (regular_ascending__i.C Go.Proofs.Tryz.prog) := by
 exact inlCF_ok (lookC_ok (fun p hp => by
  simp only [List.mem_cons, List.not_mem_nil, or_false] at hp
  rcases hp with rfl | rfl | rfl
  ·exact slices_Sort__i.ok W
  ·exact slices_Concat_79__i.ok W
  ·exact slices_Compact__i.ok W))
set_option maxHeartbeats 8000000 in
theorem regular_ascending__p.main : regular_ascending__p.t := by
 repeat' (first | exact rfl | trivial | decide | (refine And.intro ?_ ?_) | intro _)
theorem regular_ascending__p.ok (W : World) : CtrOK Go.Proofs.Tryz.prog W 39 regular_ascending__p.C := point_ok (regular_ascending__i.ok W) regular_ascending__p.A regular_ascending__p.R (by simp) (Eq.mpr regular_ascending__p.w regular_ascending__p.main)
theorem regular_Star_1__i.ok (W : World) : CtrOK Go.Proofs.Tryz.prog W 37 (regular_Star_1__i.C Go.Proofs.Tryz.prog) := by
 exact inlCF_ok (lookC_ok (fun p hp => by
  simp only [List.mem_cons, List.not_mem_nil, or_false] at hp
  rcases hp with rfl | rfl | rfl | rfl | rfl | rfl | rfl
  ·exact regular_behind__i.ok W
  ·exact regular_ascending__p.ok W
  ·exact regular_plus__p.ok W
  ·exact slices_Concat__i.ok W
  ·exact slices_Collect__i.ok W
  ·exact regular_like__i.ok W
  ·exact slices_AppendSeq__i.ok W))
theorem regular_Automaton_add__i.ok (W : World) : CtrOK Go.Proofs.Tryz.prog W 35 (regular_Automaton_add__i.C Go.Proofs.Tryz.prog) := by
 exact inlCF_ok (lookC_ok (fun p hp => by cases hp))
theorem regular_Exactly_1__i.ok (W : World) : CtrOK Go.Proofs.Tryz.prog W 34 (regular_Exactly_1__i.C Go.Proofs.Tryz.prog) := by
 exact inlCF_ok (lookC_ok (fun p hp => by
  simp only [List.mem_cons, List.not_mem_nil, or_false] at hp
  rcases hp with rfl | rfl
  ·exact regular_Automaton_add__i.ok W
  ·exact slices_Sort__i.ok W))
theorem regular_Automaton_trim__d.ok (W : World) : CtrOK Go.Proofs.Tryz.prog W 32 regular_Automaton_trim__d.C := pureD_ok (regular_Automaton_trim.ok W)
theorem regular_guarded__i.ok (W : World) : CtrOK Go.Proofs.Tryz.prog W 33 (regular_guarded__i.C Go.Proofs.Tryz.prog) :=
 TD.ok (t := 20) (g := 74) (ms := #[]) (lookC_ok fun p hp => by
  simp only [List.mem_cons, List.mem_nil_iff, or_false] at hp
  rcases hp with rfl | rfl | rfl
  ·exact regular_Exactly_1__i.ok W
  ·exact regular_Star_1__i.ok W
  ·exact regular_Automaton_trim__d.ok W) (by kernel_rfl) (by kernel_rfl) (by kernel_rfl) (by decide)
theorem regular_Exactly__i.ok (W : World) : CtrOK Go.Proofs.Tryz.prog W 18 (regular_Exactly__i.C Go.Proofs.Tryz.prog) := by
 exact inlCF_ok (lookC_ok (fun p hp => by
  simp only [List.mem_cons, List.not_mem_nil, or_false] at hp
  rcases hp with rfl | rfl
  ·exact term_Value__d.ok W
  ·exact regular_guarded__i.ok W))
theorem mem_all {α : Type} {p : α → Prop} {l : List α} (h : l.foldr (fun x r => p x ∧ r) True) : ∀ x ∈ l, p x := by
 induction l with
 | nil => intro x hx; cases hx
 | cons a l ih =>
   intro x hx
   rcases List.mem_cons.1 hx with rfl | hx
   ·exact h.1
   ·exact ih h.2 x hx
set_option maxHeartbeats 8000000 in
theorem regular_Exactly__p.main : regular_Exactly__p.t := by
 unfold regular_Exactly__p.t
 repeat' (first | with_reducible refine And.intro ?_ ?_ | with_reducible (refine mem_all ?_) | (unfold Sp.okA; refine mem_all ?_) | with_reducible exact List.cons_ne_nil _ _ | intro _ | with_reducible exact rfl | with_reducible exact inR64 (by decide) | decide | (simp only [inR]; decide) | (unfold Sp.okL; decide) | (unfold Sp.okN; refine And.intro ?_ ?_) | simp only [List.foldr_cons, List.foldr_nil] | exact rfl)
theorem regular_Exactly__p.ok (W : World) : CtrOK Go.Proofs.Tryz.prog W 18 regular_Exactly__p.C := point_ok (regular_Exactly__i.ok W) regular_Exactly__p.A regular_Exactly__p.R (by simp) (Eq.mpr regular_Exactly__p.w regular_Exactly__p.main)
theorem regular_Star__i.ok (W : World) : CtrOK Go.Proofs.Tryz.prog W 19 (regular_Star__i.C Go.Proofs.Tryz.prog) := by
 exact inlCF_ok (lookC_ok (fun p hp => by
  simp only [List.mem_cons, List.not_mem_nil, or_false] at hp
  rcases hp with rfl | rfl
  ·exact regular_Check__d.ok W
  ·exact regular_guarded__i.ok W))
set_option maxHeartbeats 8000000 in
theorem regular_Star__p.main : regular_Star__p.t := by
 unfold regular_Star__p.t
 repeat' (first | with_reducible refine And.intro ?_ ?_ | with_reducible (refine mem_all ?_) | (unfold Sp.okA; refine mem_all ?_) | with_reducible exact List.cons_ne_nil _ _ | intro _ | with_reducible exact rfl | with_reducible exact inR64 (by decide) | decide | (simp only [inR]; decide) | (unfold Sp.okL; decide) | (unfold Sp.okN; refine And.intro ?_ ?_) | simp only [List.foldr_cons, List.foldr_nil] | exact rfl)
theorem regular_Star__p.ok (W : World) : CtrOK Go.Proofs.Tryz.prog W 19 regular_Star__p.C := point_ok (regular_Star__i.ok W) regular_Star__p.A regular_Star__p.R (by simp) (Eq.mpr regular_Star__p.w regular_Star__p.main)
theorem regular_Exactly__d.ok (W : World) : CtrOK Go.Proofs.Tryz.prog W 18 regular_Exactly__d.C := pureD_ok (regular_Exactly__p.ok W)
theorem regular_Star__d.ok (W : World) : CtrOK Go.Proofs.Tryz.prog W 19 regular_Star__d.C := pureD_ok (regular_Star__p.ok W)
theorem l23_awake__i.ok (W : World) : CtrOK Go.Proofs.Tryz.prog W 7 (l23_awake__i.C Go.Proofs.Tryz.prog) := by
 exact inlCF_ok (lookC_ok (fun p hp => by
  simp only [List.mem_cons, List.not_mem_nil, or_false] at hp
  rcases hp with rfl | rfl | rfl
  ·exact regular_Has__d.ok W
  ·exact regular_Exactly__d.ok W
  ·exact regular_Star__d.ok W))
set_option maxHeartbeats 8000000 in
theorem l23_awake.main : l23_awake.t := by
 unfold l23_awake.t
 repeat' (first | with_reducible refine And.intro ?_ ?_ | with_reducible (refine mem_all ?_) | (unfold Sp.okA; refine mem_all ?_) | with_reducible exact List.cons_ne_nil _ _ | intro _ | with_reducible exact rfl | with_reducible exact inR64 (by decide) | decide | (simp only [inR]; decide) | (unfold Sp.okL; decide) | (unfold Sp.okN; refine And.intro ?_ ?_) | simp only [List.foldr_cons, List.foldr_nil] | exact rfl)
theorem l23_awake.ok (W : World) : CtrOK Go.Proofs.Tryz.prog W 7 l23_awake.C := point_ok (l23_awake__i.ok W) l23_awake.A l23_awake.R (by simp) (Eq.mpr l23_awake.w l23_awake.main)
end Go.AL
namespace Go.AL
set_option linter.unusedVariables false
end Go.AL
namespace Sp
open Go.AL
def sml23 (e : Edg) : Bool := !(((decide (6 < (e.exc.length : Int)) && decide ((e.exc.length : Int) ≤ 100)) || decide (102 < (e.exc.length : Int))) || !small e.exc 200 || !small [e.sym] 50)
def big23 (a : Aut) (n : Int) : Bool := (decide (n < (a.edges.length : Int)) && (decide ((a.edges.length : Int) ≤ 4000) || decide (4002 < (a.edges.length : Int)))) || (decide (n < a.states) && decide (a.states ≤ 400)) || (decide (n < (a.final.length : Int)) && decide ((a.final.length : Int) ≤ 400)) || decide (402 < (a.final.length : Int))
def small23 (a : Aut) (n : Int) : Bool := !big23 a n && a.edges.all sml23
end Sp
namespace Go.AL
def l23_Small.L0 : LD := { cs := [], cts := [], pts := [(2, (.loc 0 0))], vs := [5], os := [(0, .plain, [none, none, none, none])], vts := [.int .i64, .int .i64, .int .i64, .lst (.int .i64), .lst (.nm 6)], own := [false, false, false, false, false], ro := [0, 1, 2, 7, 8, 9, 10, 11, 12, 13, 14, 15, 16, 17, 18, 19, 20, 21, 22, 23, 24, 25, 26, 27, 28, 29, 30, 31, 32, 33, 34, 35, 36, 37, 38, 39, 40, 41, 42, 43, 44, 45, 46, 47, 48, 49, 50, 51, 52, 53], nx := 100 }
def l23_Small.Λ (a : Aut) (m : Int) : Nat → Option (Loop (ElT [.bool])) := fun id =>
 if id = 0 then some (mkLoop l23_Small.L0
  (fun (c_ : Unit) (s_ : Int × Int × Int × (List Int) × (List Edg)) => match c_, s_ with | (), (i, n, st, fin, ed) => 0 ≤ i ∧ i ≤ ed.length ∧ n = a.states ∧ st = a.start ∧ fin = a.final ∧ ed = a.edges)
  (fun (c_ : Unit) (s_ : Int × Int × Int × (List Int) × (List Edg)) => match c_, s_ with | (), (i, n, st, fin, ed) => (ed.length - i : Int).toNat)
  (fun (c_ : Unit) (s_ : Int × Int × Int × (List Int) × (List Edg)) => match c_, s_ with | (), (i, n, st, fin, ed) => if (a.edges.drop i.toNat).all Sp.sml23 then .brk (a.edges.length, n, st, fin, ed) else .ret false) [] true) else
 none
def l23_Small.C : Ctr := pureCtr [.nm 7, .int .i64] [.bool] (some (fun (a_ : Aut × Int) => match a_ with | (a, m) => -1 ≤ m ∧ m ≤ 1000000)) (fun (a_ : Aut × Int) => match a_ with | (a, m) => (Sp.small23 a m))
def l23_given.L0 : LD := { cs := [], cts := [], pts := [(1, (.loc 0 0)), (3, (.loc 2 0))], vs := [4], os := [(0, .plain, [none, none, none, none]), (2, .plain, [none, none, none, none])], vts := [.int .i64, .int .i64, .int .i64, .lst (.int .i64), .lst (.nm 6), .int .i64, .int .i64, .lst (.int .i64), .lst (.nm 6)], own := [false, false, false, false, false, false, false, false, true], ro := [0, 1, 2, 6, 7, 8, 9, 10, 11, 12, 3], nx := 100 }
def l23_given.Λ (a : Aut) : Nat → Option (Loop (ElT [.nm 7])) := fun id =>
 if id = 0 then some (mkLoop l23_given.L0
  (fun (c_ : Unit) (s_ : Int × Int × Int × (List Int) × (List Edg) × Int × Int × (List Int) × (List Edg)) => match c_, s_ with | (), (i, n, st, fin, ed, n1, st1, fin1, ed1) => 0 ≤ i ∧ i ≤ ed.length ∧ n = a.states ∧ st = a.start ∧ fin = a.final ∧ ed = a.edges ∧ n1 = a.states ∧ st1 = a.start ∧ fin1 = a.final ∧ ed1 = a.edges.take i.toNat)
  (fun (c_ : Unit) (s_ : Int × Int × Int × (List Int) × (List Edg) × Int × Int × (List Int) × (List Edg)) => match c_, s_ with | (), (i, n, st, fin, ed, n1, st1, fin1, ed1) => (ed.length - i : Int).toNat)
  (fun (c_ : Unit) (s_ : Int × Int × Int × (List Int) × (List Edg) × Int × Int × (List Int) × (List Edg)) => match c_, s_ with | (), (i, n, st, fin, ed, n1, st1, fin1, ed1) => .brk (a.edges.length, a.states, a.start, a.final, a.edges, a.states, a.start, a.final, a.edges)) [] false) else
 none
def l23_given.C : Ctr := pureCtr [.nm 7] [.nm 7] (some (fun (a : Aut) => a.edges.length ≤ 4000000)) (fun (a : Aut) => (a))
end Go.AL
namespace Go.AL
set_option linter.unusedVariables false
set_option maxRecDepth 10000
def l23_Small.l0 (a : Aut) : Prop :=
 ∀ i i1 i2 : Int, ∀ l : List Int, ∀ l1 : List Edg, 0≤i∧i≤(↑(List.length l1) : Int)∧i1=Aut.states a∧i2=Aut.start a∧l=Aut.final a∧l1=Aut.edges a→List.length l1 < 9223372036854775808→ifB (decide (i < (↑(List.length l1) : Int))) ((0≤i∧i < (↑(List.length l1) : Int))∧(List.length (Edg.exc (nth Inhabited.default l1 i)) < 9223372036854775808→((decide (6 < (↑(List.length (Edg.exc (nth Inhabited.default l1 i))) : Int)) && decide ((↑(List.length (Edg.exc (nth Inhabited.default l1 i))) : Int)≤100) || decide (102 < (↑(List.length (Edg.exc (nth Inhabited.default l1 i))) : Int)))=false→(-1 : Int)≤200∧(200 : Int)≤1000000)∧((decide (6 < (↑(List.length (Edg.exc (nth Inhabited.default l1 i))) : Int)) && decide ((↑(List.length (Edg.exc (nth Inhabited.default l1 i))) : Int)≤100) || decide (102 < (↑(List.length (Edg.exc (nth Inhabited.default l1 i))) : Int)) || (!(Sp.small (Edg.exc (nth Inhabited.default l1 i)) 200)))=false→(-1 : Int)≤50∧(50 : Int)≤1000000)∧ifB (decide (6 < (↑(List.length (Edg.exc (nth Inhabited.default l1 i))) : Int)) && decide ((↑(List.length (Edg.exc (nth Inhabited.default l1 i))) : Int)≤100) || decide (102 < (↑(List.length (Edg.exc (nth Inhabited.default l1 i))) : Int)) || (!(Sp.small (Edg.exc (nth Inhabited.default l1 i)) 200)) || (!(Sp.small (Tm.mk (Tm.kind (Edg.sym (nth Inhabited.default l1 i))) (Tm.text (Edg.sym (nth Inhabited.default l1 i))) (Tm.kids (Edg.sym (nth Inhabited.default l1 i))) :: ([] : List Tm)) 50))) ((ite (List.all (List.drop (Int.toNat i) (Aut.edges a)) Sp.sml23=true) (LOut.brk ((↑(List.length (Aut.edges a)) : Int), i1, i2, l, l1)) (LOut.ret false) : LOut _ Bool)=LOut.ret false) (inR .i64 (i + 1)∧(0≤i + 1∧i + 1≤(↑(List.length l1) : Int)∧i1=Aut.states a∧i2=Aut.start a∧l=Aut.final a∧l1=Aut.edges a)∧Int.toNat ((↑(List.length l1) : Int) - (i + 1)) < Int.toNat ((↑(List.length l1) : Int) - i)∧(ite (List.all (List.drop (Int.toNat (i + 1)) (Aut.edges a)) Sp.sml23=true) (LOut.brk ((↑(List.length (Aut.edges a)) : Int), i1, i2, l, l1)) (LOut.ret false) : LOut _ Bool)=ite (List.all (List.drop (Int.toNat i) (Aut.edges a)) Sp.sml23=true) (LOut.brk ((↑(List.length (Aut.edges a)) : Int), i1, i2, l, l1)) (LOut.ret false)))) ((ite (List.all (List.drop (Int.toNat i) (Aut.edges a)) Sp.sml23=true) (LOut.brk ((↑(List.length (Aut.edges a)) : Int), i1, i2, l, l1)) (LOut.ret false) : LOut _ Bool)=LOut.brk (i, i1, i2, l, l1))
def l23_Small.t (a : Aut) (m : Int) : Prop :=
 List.length (Aut.edges a) < 9223372036854775808→ifB (decide (m < (↑(List.length (Aut.edges a)) : Int)) && (decide ((↑(List.length (Aut.edges a)) : Int)≤4000) || decide (4002 < (↑(List.length (Aut.edges a)) : Int))) || decide (m < Aut.states a) && decide (Aut.states a≤400) || decide (m < (↑(List.length (Aut.final a)) : Int)) && decide ((↑(List.length (Aut.final a)) : Int)≤400) || decide (402 < (↑(List.length (Aut.final a)) : Int))) (Sp.small23 a m=false) (((0 : Int)≤0∧0≤(↑(List.length (Aut.edges a)) : Int)∧Aut.states a=Aut.states a∧Aut.start a=Aut.start a∧Aut.final a=Aut.final a∧Aut.edges a=Aut.edges a)∧l23_Small.l0 a∧(∀ i i1 i2 : Int, ∀ l : List Int, ∀ l1 : List Edg, (ite (List.all (List.drop (Int.toNat 0) (Aut.edges a)) Sp.sml23=true) (LOut.brk ((↑(List.length (Aut.edges a)) : Int), Aut.states a, Aut.start a, Aut.final a, Aut.edges a)) (LOut.ret false) : LOut _ Bool)=LOut.brk (i, i1, i2, l, l1)→Sp.small23 a m=true)∧∀ b : Bool, (ite (List.all (List.drop (Int.toNat 0) (Aut.edges a)) Sp.sml23=true) (LOut.brk ((↑(List.length (Aut.edges a)) : Int), Aut.states a, Aut.start a, Aut.final a, Aut.edges a)) (LOut.ret false) : LOut _ Bool)=LOut.ret b→Sp.small23 a m=b)
def l23_given.l0 (a : Aut) : Prop :=
 ∀ i i1 i2 : Int, ∀ l : List Int, ∀ l1 : List Edg, ∀ i3 i4 : Int, ∀ l2 : List Int, ∀ l3 : List Edg, 0≤i∧i≤(↑(List.length l1) : Int)∧i1=Aut.states a∧i2=Aut.start a∧l=Aut.final a∧l1=Aut.edges a∧i3=Aut.states a∧i4=Aut.start a∧l2=Aut.final a∧l3=List.take (Int.toNat i) (Aut.edges a)→List.length l1 < 9223372036854775808→ifB (decide (i < (↑(List.length l1) : Int))) ((0≤i∧i < (↑(List.length l1) : Int))∧List.length l3 + List.length (Edg.mk (Edg.src (nth Inhabited.default l1 i)) (Edg.dst (nth Inhabited.default l1 i)) (Edg.kind (nth Inhabited.default l1 i)) (Tm.mk (Tm.kind (Edg.sym (nth Inhabited.default l1 i))) (Tm.text (Edg.sym (nth Inhabited.default l1 i))) (Tm.kids (Edg.sym (nth Inhabited.default l1 i)))) (Edg.exc (nth Inhabited.default l1 i)) (Edg.inner (nth Inhabited.default l1 i)) :: ([] : List Edg))≤8589934592∧inR .i64 (i + 1)∧(0≤i + 1∧i + 1≤(↑(List.length l1) : Int)∧i1=Aut.states a∧i2=Aut.start a∧l=Aut.final a∧l1=Aut.edges a∧i3=Aut.states a∧i4=Aut.start a∧l2=Aut.final a∧l3 ++ Edg.mk (Edg.src (nth Inhabited.default l1 i)) (Edg.dst (nth Inhabited.default l1 i)) (Edg.kind (nth Inhabited.default l1 i)) (Tm.mk (Tm.kind (Edg.sym (nth Inhabited.default l1 i))) (Tm.text (Edg.sym (nth Inhabited.default l1 i))) (Tm.kids (Edg.sym (nth Inhabited.default l1 i)))) (Edg.exc (nth Inhabited.default l1 i)) (Edg.inner (nth Inhabited.default l1 i)) :: ([] : List Edg)=List.take (Int.toNat (i + 1)) (Aut.edges a))∧Int.toNat ((↑(List.length l1) : Int) - (i + 1)) < Int.toNat ((↑(List.length l1) : Int) - i)∧(LOut.brk ((↑(List.length (Aut.edges a)) : Int), Aut.states a, Aut.start a, Aut.final a, Aut.edges a, Aut.states a, Aut.start a, Aut.final a, Aut.edges a) : LOut _ Aut)=LOut.brk ((↑(List.length (Aut.edges a)) : Int), Aut.states a, Aut.start a, Aut.final a, Aut.edges a, Aut.states a, Aut.start a, Aut.final a, Aut.edges a)) ((LOut.brk ((↑(List.length (Aut.edges a)) : Int), Aut.states a, Aut.start a, Aut.final a, Aut.edges a, Aut.states a, Aut.start a, Aut.final a, Aut.edges a) : LOut _ Aut)=LOut.brk (i, i1, i2, l, l1, i3, i4, l2, l3))
def l23_given.t (a : Aut) : Prop :=
 ((0 : Int)≤0∧0≤(↑(List.length (Aut.edges a)) : Int)∧Aut.states a=Aut.states a∧Aut.start a=Aut.start a∧Aut.final a=Aut.final a∧Aut.edges a=Aut.edges a∧Aut.states a=Aut.states a∧Aut.start a=Aut.start a∧Aut.final a=Aut.final a∧([] : List Edg)=List.take (Int.toNat 0) (Aut.edges a))∧l23_given.l0 a∧∀ i i1 i2 : Int, ∀ l : List Int, ∀ l1 : List Edg, ∀ i3 i4 : Int, ∀ l2 : List Int, ∀ l3 : List Edg, (LOut.brk ((↑(List.length (Aut.edges a)) : Int), Aut.states a, Aut.start a, Aut.final a, Aut.edges a, Aut.states a, Aut.start a, Aut.final a, Aut.edges a) : LOut _ Aut)=LOut.brk (i, i1, i2, l, l1, i3, i4, l2, l3)→a=Aut.mk i3 i4 l2 l3
end Go.AL
namespace Go.AL
set_option linter.unusedVariables false
set_option linter.unusedSimpArgs false
set_option maxRecDepth 10000
attribute [local irreducible] wpF wpFX wpM wpFM
theorem l23_Small.l0_ok (a : Aut) : l23_Small.l0 a := by
 rintro i n st fin ed ⟨h1, h2, e1, e2, e3, e4⟩ hs
 subst n st fin ed
 refine ifD (fun h => ?_) fun h => ?_
 ·have hi : i.toNat < a.edges.length := by omega
  rw [nth_drop (d := default) hi, show (i + 1).toNat = i.toNat + 1 by omega, List.all_cons]
  refine ⟨by omega, fun _ => ⟨fun _ => by omega, fun _ => by omega, ?_⟩⟩
  rw [Tm.eta]
  refine ifB_of (fun hb => ?_) fun hb => ⟨inR64 (by omega), ⟨by omega, by omega, rfl, rfl, rfl, rfl⟩, by omega, ?_⟩
  ·have e : Sp.sml23 (nth default a.edges i) = false := by rw [Sp.sml23, hb]; rfl
   rw [e]; rfl
  ·have e : Sp.sml23 (nth default a.edges i) = true := by rw [Sp.sml23, hb]; rfl
   rw [e, Bool.true_and]
 ·rw [List.drop_eq_nil_of_le (by omega), show i = a.edges.length by omega]
  rfl
theorem l23_Small.main (a : Aut) (m : Int) (ha : -1 ≤ m ∧ m ≤ 1000000) : l23_Small.t a m := by
 intro hs
 refine ifB_of (fun h => ?_) fun h => ⟨⟨by omega, by omega, rfl, rfl, rfl, rfl⟩, l23_Small.l0_ok a, fun i n st fin ed hq => ?_, fun b hq => ?_⟩
 ·have e : Sp.big23 a m = true := h
  rw [Sp.small23, e]; rfl
 ·have e : Sp.big23 a m = false := h
  rw [Int.toNat_zero, List.drop_zero] at hq
  rw [Sp.small23, e]
  split at hq
  ·rename_i h1; rw [h1]; rfl
  ·cases hq
 ·have e : Sp.big23 a m = false := h
  rw [Int.toNat_zero, List.drop_zero] at hq
  rw [Sp.small23, e]
  split at hq
  ·cases hq
  ·rename_i h1
   cases hq
   simpa using h1
theorem l23_Small.ok (W : World) : CtrOK Go.Proofs.Tryz.prog W 5 l23_Small.C := by
 refine funOK (Γ := lookC [(6, l09_Small.C)]) (lookC_ok (fun p hp => by
  simp only [List.mem_cons, List.not_mem_nil, or_false] at hp
  subst hp; exact l09_Small.ok W)) (Λ := fun a_ => match a_ with | (a, m) => (l23_Small.Λ a m)) (Λr := fun a_ => match a_ with | (a, m) => (fun _ => none)) ?_
 intro a ha
 obtain ⟨a, m⟩ := a
 refine Eq.mpr ?_ (@l23_Small.main a m ha)
 kernel_rfl
theorem l23_given.l0_ok (a : Aut) (ha : a.edges.length ≤ 4000000) : l23_given.l0 a := by
 rintro i n st fin ed n1 st1 fin1 ed1 ⟨h1, h2, e1, e2, e3, e4, e5, e6, e7, e8⟩ hs
 subst n st fin ed n1 st1 fin1 ed1
 refine ifD (fun h => ?_) fun h => ?_
 ·have hi : i.toNat < a.edges.length := by omega
  rw [Tm.eta, show (Edg.mk (nth default a.edges i).src (nth default a.edges i).dst (nth default a.edges i).kind (nth default a.edges i).sym (nth default a.edges i).exc (nth default a.edges i).inner) = nth default a.edges i from rfl]
  refine ⟨by omega, ?_, inR64 (by omega), ⟨by omega, by omega, rfl, rfl, rfl, rfl, rfl, rfl, rfl, ?_⟩, by omega, rfl⟩
  ·simp only [List.length_take, List.length_cons, List.length_nil]; omega
  ·rw [show (i + 1).toNat = i.toNat + 1 by omega, List.take_add_one]
   congr 1
   simp [nth, List.getD_eq_getElem?_getD, hi]
 ·rw [show i = a.edges.length by omega, Int.toNat_natCast, List.take_length]
theorem l23_given.main (a : Aut) (ha : a.edges.length ≤ 4000000) : l23_given.t a := by
 refine ⟨⟨by omega, by omega, rfl, rfl, rfl, rfl, rfl, rfl, rfl, rfl⟩, l23_given.l0_ok a ha, fun i n st fin ed n1 st1 fin1 ed1 hq => ?_⟩
 simp only [LOut.brk.injEq, Prod.mk.injEq] at hq
 obtain ⟨_, _, _, _, _, rfl, rfl, rfl, rfl⟩ := hq
 rfl
theorem l23_given.ok (W : World) : CtrOK Go.Proofs.Tryz.prog W 9 l23_given.C := by
 refine funOK (Γ := lookC []) (lookC_ok (fun p hp => by cases hp)) (Λ := fun a_ => match a_ with | a => (l23_given.Λ a)) (Λr := fun a_ => match a_ with | a => (fun _ => none)) ?_
 intro a ha
 refine Eq.mpr ?_ (@l23_given.main a ha)
 kernel_rfl
end Go.AL
