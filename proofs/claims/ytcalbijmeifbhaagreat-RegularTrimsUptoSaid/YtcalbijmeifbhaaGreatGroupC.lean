/- Functions of the program: what they return, and that they do. -/
import Derived.Test.YtcalbijmeifbhaaGreatGroupB
import Derived.Test.YtcalbijmeifbhaaGreatProg
import Derived.KernelRfl
import Derived.Test.YtcalbijmeifbhaaGreatEvalC
import Derived.Test.YtcalbijmeifbhaaGreatHandB
import Derived.Laws.BitsAllLaws
import Derived.Test.YtcalbijmeifbhaaGreatGroupA
set_option linter.unusedVariables false
set_option linter.unusedSimpArgs false
namespace Go.AL
set_option linter.unusedVariables false
end Go.AL
namespace Sp
open Go.AL
def bfin (l : List Int) (x : Bts) : Bts := l.foldl bput x
end Sp
namespace Go.AL
def regular_Automaton_finals.L0 : LD := { cs := [7, 8], cts := [.lst (.int .i64), .int .i64], pts := [(3, (.loc 2 0))], vs := [9], os := [(2, .plain, [none, none, none, none, none, none, none])], vts := [.int .i64, .int .u64, .int .u64, .int .u64, .int .u64, .int .u64, .int .u64, .int .u64], own := [false, false, false, false, false, false, false, false], ro := [0, 1, 2, 3, 6, 7, 8], nx := 100 }
def regular_Automaton_finals.Λ (a : Aut) : Nat → Option (Loop (ElT [.nm 8])) := fun id =>
 if id = 0 then some (mkLoop regular_Automaton_finals.L0
  (fun (c_ : (List Int) × Int) (s_ : Int × Int × Int × Int × Int × Int × Int × Int) => match c_, s_ with | (l, n), (i, c0, c1, c2, c3, c4, c5, c6) => l = a.final ∧ n = l.length ∧ 0 ≤ i ∧ i ≤ l.length ∧ l.length < 9223372036854775808)
  (fun (c_ : (List Int) × Int) (s_ : Int × Int × Int × Int × Int × Int × Int × Int) => match c_, s_ with | (l, n), (i, c0, c1, c2, c3, c4, c5, c6) => (l.length - i : Int).toNat)
  (fun (c_ : (List Int) × Int) (s_ : Int × Int × Int × Int × Int × Int × Int × Int) => match c_, s_ with | (l, n), (i, c0, c1, c2, c3, c4, c5, c6) => .brk ((l.length : Int), (Sp.bfin (l.drop i.toNat) ⟨c0, c1, c2, c3, c4, c5, c6⟩).b0, (Sp.bfin (l.drop i.toNat) ⟨c0, c1, c2, c3, c4, c5, c6⟩).b1, (Sp.bfin (l.drop i.toNat) ⟨c0, c1, c2, c3, c4, c5, c6⟩).b2, (Sp.bfin (l.drop i.toNat) ⟨c0, c1, c2, c3, c4, c5, c6⟩).b3, (Sp.bfin (l.drop i.toNat) ⟨c0, c1, c2, c3, c4, c5, c6⟩).b4, (Sp.bfin (l.drop i.toNat) ⟨c0, c1, c2, c3, c4, c5, c6⟩).b5, (Sp.bfin (l.drop i.toNat) ⟨c0, c1, c2, c3, c4, c5, c6⟩).b6)) [] false) else
 none
def regular_Automaton_finals.C : Ctr := pureCtr [.nm 7] [.nm 8] (some (fun (a : Aut) => ∀ f ∈ a.final, 0 ≤ f ∧ f < 400)) (fun (a : Aut) => (Sp.bfin a.final ⟨0, 0, 0, 0, 0, 0, 0⟩))
end Go.AL
namespace Go.AL
set_option linter.unusedVariables false
set_option maxRecDepth 10000
def regular_Automaton_finals.l0 (a : Aut) : Prop :=
 ∀ l : List Int, ∀ i i1 i2 i3 i4 i5 i6 i7 i8 : Int, l=Aut.final a∧i=(↑(List.length l) : Int)∧0≤i1∧i1≤(↑(List.length l) : Int)∧List.length l < 9223372036854775808→ifB (decide (i1 < i)) ((0≤i1∧i1 < (↑(List.length l) : Int))∧(0≤nth 0 l i1∧nth 0 l i1 < 400)∧∀ i9 i10 i11 i12 i13 i14 i15 : Int, ((), Bts.b0 (Sp.bput (Bts.mk i2 i3 i4 i5 i6 i7 i8) (nth 0 l i1)), Bts.b1 (Sp.bput (Bts.mk i2 i3 i4 i5 i6 i7 i8) (nth 0 l i1)), Bts.b2 (Sp.bput (Bts.mk i2 i3 i4 i5 i6 i7 i8) (nth 0 l i1)), Bts.b3 (Sp.bput (Bts.mk i2 i3 i4 i5 i6 i7 i8) (nth 0 l i1)), Bts.b4 (Sp.bput (Bts.mk i2 i3 i4 i5 i6 i7 i8) (nth 0 l i1)), Bts.b5 (Sp.bput (Bts.mk i2 i3 i4 i5 i6 i7 i8) (nth 0 l i1)), Bts.b6 (Sp.bput (Bts.mk i2 i3 i4 i5 i6 i7 i8) (nth 0 l i1)))=((), i9, i10, i11, i12, i13, i14, i15)→inR .i64 (i1 + 1)∧(l=Aut.final a∧i=(↑(List.length l) : Int)∧0≤i1 + 1∧i1 + 1≤(↑(List.length l) : Int)∧List.length l < 9223372036854775808)∧Int.toNat ((↑(List.length l) : Int) - (i1 + 1)) < Int.toNat ((↑(List.length l) : Int) - i1)∧(LOut.brk ((↑(List.length l) : Int), Bts.b0 (Sp.bfin (List.drop (Int.toNat (i1 + 1)) l) (Bts.mk i9 i10 i11 i12 i13 i14 i15)), Bts.b1 (Sp.bfin (List.drop (Int.toNat (i1 + 1)) l) (Bts.mk i9 i10 i11 i12 i13 i14 i15)), Bts.b2 (Sp.bfin (List.drop (Int.toNat (i1 + 1)) l) (Bts.mk i9 i10 i11 i12 i13 i14 i15)), Bts.b3 (Sp.bfin (List.drop (Int.toNat (i1 + 1)) l) (Bts.mk i9 i10 i11 i12 i13 i14 i15)), Bts.b4 (Sp.bfin (List.drop (Int.toNat (i1 + 1)) l) (Bts.mk i9 i10 i11 i12 i13 i14 i15)), Bts.b5 (Sp.bfin (List.drop (Int.toNat (i1 + 1)) l) (Bts.mk i9 i10 i11 i12 i13 i14 i15)), Bts.b6 (Sp.bfin (List.drop (Int.toNat (i1 + 1)) l) (Bts.mk i9 i10 i11 i12 i13 i14 i15))) : LOut _ Bts)=LOut.brk ((↑(List.length l) : Int), Bts.b0 (Sp.bfin (List.drop (Int.toNat i1) l) (Bts.mk i2 i3 i4 i5 i6 i7 i8)), Bts.b1 (Sp.bfin (List.drop (Int.toNat i1) l) (Bts.mk i2 i3 i4 i5 i6 i7 i8)), Bts.b2 (Sp.bfin (List.drop (Int.toNat i1) l) (Bts.mk i2 i3 i4 i5 i6 i7 i8)), Bts.b3 (Sp.bfin (List.drop (Int.toNat i1) l) (Bts.mk i2 i3 i4 i5 i6 i7 i8)), Bts.b4 (Sp.bfin (List.drop (Int.toNat i1) l) (Bts.mk i2 i3 i4 i5 i6 i7 i8)), Bts.b5 (Sp.bfin (List.drop (Int.toNat i1) l) (Bts.mk i2 i3 i4 i5 i6 i7 i8)), Bts.b6 (Sp.bfin (List.drop (Int.toNat i1) l) (Bts.mk i2 i3 i4 i5 i6 i7 i8)))) ((LOut.brk ((↑(List.length l) : Int), Bts.b0 (Sp.bfin (List.drop (Int.toNat i1) l) (Bts.mk i2 i3 i4 i5 i6 i7 i8)), Bts.b1 (Sp.bfin (List.drop (Int.toNat i1) l) (Bts.mk i2 i3 i4 i5 i6 i7 i8)), Bts.b2 (Sp.bfin (List.drop (Int.toNat i1) l) (Bts.mk i2 i3 i4 i5 i6 i7 i8)), Bts.b3 (Sp.bfin (List.drop (Int.toNat i1) l) (Bts.mk i2 i3 i4 i5 i6 i7 i8)), Bts.b4 (Sp.bfin (List.drop (Int.toNat i1) l) (Bts.mk i2 i3 i4 i5 i6 i7 i8)), Bts.b5 (Sp.bfin (List.drop (Int.toNat i1) l) (Bts.mk i2 i3 i4 i5 i6 i7 i8)), Bts.b6 (Sp.bfin (List.drop (Int.toNat i1) l) (Bts.mk i2 i3 i4 i5 i6 i7 i8))) : LOut _ Bts)=LOut.brk (i1, i2, i3, i4, i5, i6, i7, i8))
def regular_Automaton_finals.t (a : Aut) : Prop :=
 List.length (Aut.final a) < 9223372036854775808→(Aut.final a=Aut.final a∧(↑(List.length (Aut.final a)) : Int)=(↑(List.length (Aut.final a)) : Int)∧(0 : Int)≤0∧0≤(↑(List.length (Aut.final a)) : Int)∧List.length (Aut.final a) < 9223372036854775808)∧regular_Automaton_finals.l0 a∧∀ i i1 i2 i3 i4 i5 i6 i7 : Int, (LOut.brk ((↑(List.length (Aut.final a)) : Int), Bts.b0 (Sp.bfin (List.drop (Int.toNat 0) (Aut.final a)) (Bts.mk 0 0 0 0 0 0 0)), Bts.b1 (Sp.bfin (List.drop (Int.toNat 0) (Aut.final a)) (Bts.mk 0 0 0 0 0 0 0)), Bts.b2 (Sp.bfin (List.drop (Int.toNat 0) (Aut.final a)) (Bts.mk 0 0 0 0 0 0 0)), Bts.b3 (Sp.bfin (List.drop (Int.toNat 0) (Aut.final a)) (Bts.mk 0 0 0 0 0 0 0)), Bts.b4 (Sp.bfin (List.drop (Int.toNat 0) (Aut.final a)) (Bts.mk 0 0 0 0 0 0 0)), Bts.b5 (Sp.bfin (List.drop (Int.toNat 0) (Aut.final a)) (Bts.mk 0 0 0 0 0 0 0)), Bts.b6 (Sp.bfin (List.drop (Int.toNat 0) (Aut.final a)) (Bts.mk 0 0 0 0 0 0 0))) : LOut _ Bts)=LOut.brk (i, i1, i2, i3, i4, i5, i6, i7)→Sp.bfin (Aut.final a) (Bts.mk 0 0 0 0 0 0 0)=Bts.mk i1 i2 i3 i4 i5 i6 i7
end Go.AL
namespace Go.AL
set_option linter.unusedVariables false
set_option linter.unusedSimpArgs false
set_option maxRecDepth 10000
attribute [local irreducible] wpF wpFX wpM wpFM
theorem regular_Automaton_finals.l0_ok (a : Aut) (ha : ∀ f ∈ a.final, 0 ≤ f ∧ f < 400) : regular_Automaton_finals.l0 a := by
 rintro l n i c0 c1 c2 c3 c4 c5 c6 ⟨e1, e2, h1, h2, h3⟩
 subst l n
 refine ifD (fun h => ?_) fun h => ?_
 ·have hi : i.toNat < a.final.length := by omega
  have e1 : (i + 1).toNat = i.toNat + 1 := by omega
  refine ⟨by omega, ha _ (nth_mem hi), ?_⟩
  rintro d0 d1 d2 d3 d4 d5 d6 hq
  simp only [Prod.mk.injEq, true_and] at hq
  obtain ⟨g0, g1, g2, g3, g4, g5, g6⟩ := hq
  subst g0 g1 g2 g3 g4 g5 g6
  refine ⟨inR64 (by omega), ⟨rfl, rfl, by omega, by omega, h3⟩, by omega, ?_⟩
  rw [nth_drop (d := (0 : Int)) hi, e1]
  rfl
 ·rw [List.drop_eq_nil_of_le (by omega), show i = a.final.length by omega]
  rfl
theorem regular_Automaton_finals.main (a : Aut) (ha : ∀ f ∈ a.final, 0 ≤ f ∧ f < 400) : regular_Automaton_finals.t a := by
 refine fun hs => ⟨⟨rfl, rfl, by omega, by omega, hs⟩, regular_Automaton_finals.l0_ok a ha, fun i c0 c1 c2 c3 c4 c5 c6 hq => ?_⟩
 simp only [LOut.brk.injEq, Prod.mk.injEq, Int.toNat_zero, List.drop_zero] at hq
 obtain ⟨_, g0, g1, g2, g3, g4, g5, g6⟩ := hq
 subst g0 g1 g2 g3 g4 g5 g6
 rfl
theorem regular_Automaton_finals.ok (W : World) : CtrOK Go.Proofs.Tryz.prog W 45 regular_Automaton_finals.C := by
 refine funOK (Γ := lookC [(69, regular_set_put.C)]) (lookC_ok (fun p hp => by
  simp only [List.mem_cons, List.not_mem_nil, or_false] at hp
  subst hp; exact regular_set_put.ok W)) (Λ := fun a_ => match a_ with | a => (regular_Automaton_finals.Λ a)) (Λr := fun a_ => match a_ with | a => (fun _ => none)) ?_
 intro a ha
 refine Eq.mpr ?_ (@regular_Automaton_finals.main a ha)
 kernel_rfl
end Go.AL
namespace Go.AL
set_option linter.unusedVariables false
end Go.AL
namespace Sp
open Go.AL
def bz : Bts := ⟨0, 0, 0, 0, 0, 0, 0⟩
def bstep (f : Edg → Bool) (s : Bts) : List Edg → Bts → Bts
 | [], o => o
 | e :: l, o => bstep f s l (if bhas s e.dst && f e then bput o e.src else o)
def binto (ed : List Edg) (s : Bts) (f : Edg → Bool) : Bts := bstep f s ed bz
def inn1 (x : Bts) (e : Edg) : Bool := decide (e.kind = 5) && bhas x e.inner
mutual
def baccT (a : Aut) : Tm → Bts → Bts
 | .mk k x ks, s => if k = 4 then binto a.edges s (inn1 (baccL a ks)) else binto a.edges s (fun e => rreads e (.mk k x ks))
def baccL (a : Aut) : List Tm → Bts
 | [] => bfin a.final bz
 | t :: l => baccT a t (baccL a l)
end
def okE (e : Edg) : Prop := (0 ≤ e.src ∧ e.src < 400) ∧ (0 ≤ e.dst ∧ e.dst < 400) ∧ (1 ≤ e.kind ∧ e.kind ≤ 5) ∧ (e.kind = 5 → 0 ≤ e.inner ∧ e.inner < 400)
end Sp
namespace Go.AL
def regular_Automaton_accepting_1.d : LD := ({ cs := [0], cts := [.nm 6], pts := [(1, .loc 0 0)], vs := [], os := [(0, .plain, [none, none, none, none, none, none, none])], vts := [.int .u64, .int .u64, .int .u64, .int .u64, .int .u64, .int .u64, .int .u64], own := [false, false, false, false, false, false, false], ro := [0, 1], nx := 1 } : LD)
def regular_Automaton_accepting_1.C : Ctr := memCtr regular_Automaton_accepting_1.d [.bool] (some (fun (c_ : ElT [.nm 6]) (s_ : ElT [.int .u64, .int .u64, .int .u64, .int .u64, .int .u64, .int .u64, .int .u64]) => match c_, s_ with | e, (w0, w1, w2, w3, w4, w5, w6) => e.kind = 5 → 0 ≤ e.inner ∧ e.inner < 400)) (fun (c_ : ElT [.nm 6]) (s_ : ElT [.int .u64, .int .u64, .int .u64, .int .u64, .int .u64, .int .u64, .int .u64]) => match c_, s_ with | e, (w0, w1, w2, w3, w4, w5, w6) => ((Sp.inn1 ⟨w0, w1, w2, w3, w4, w5, w6⟩ e, (w0, w1, w2, w3, w4, w5, w6))))
def regular_Automaton_accepting_2.d : LD := ({ cs := [0], cts := [.nm 6], pts := [(1, .loc 0 0)], vs := [], os := [(0, .plain, [none, none, none])], vts := [.int .i64, .str, .lst (.nm 0)], own := [false, false, false], ro := [0, 1], nx := 1 } : LD)
def regular_Automaton_accepting_2.C : Ctr := memCtr regular_Automaton_accepting_2.d [.bool] (some (fun (c_ : ElT [.nm 6]) (s_ : ElT [.int .i64, .str, .lst (.nm 0)]) => match c_, s_ with | e, (k, x, ks) => 1 ≤ e.kind ∧ e.kind ≤ 5)) (fun (c_ : ElT [.nm 6]) (s_ : ElT [.int .i64, .str, .lst (.nm 0)]) => match c_, s_ with | e, (k, x, ks) => ((Sp.rreads e ⟨k, x, ks⟩, (k, x, ks))))
def regular_Automaton_into__1.d : LD := ({ cs := [0, 1], cts := [.nm 7, .nm 8], pts := [(2, .fn 48 [] [.loc 0 0])], vs := [], os := [(0, .plain, [none, none, none, none, none, none, none])], vts := [.int .u64, .int .u64, .int .u64, .int .u64, .int .u64, .int .u64, .int .u64], own := [false, false, false, false, false, false, false], ro := [0, 1, 2], nx := 1 } : LD)
def regular_Automaton_into__1.L0 : LD := { cs := [11, 12], cts := [.lst (.nm 6), .int .i64], pts := [(2, (.fn 48 [] [(.loc 0 0)])), (4, (.loc 9 0)), (7, (.loc 11 0))], vs := [13], os := [(0, .plain, [none, none, none, none, none, none, none]), (9, .plain, [none, none, none, none, none, none, none]), (11, .plain, [none, none, none, none, none, none, none])], vts := [.int .i64, .int .u64, .int .u64, .int .u64, .int .u64, .int .u64, .int .u64, .int .u64, .int .u64, .int .u64, .int .u64, .int .u64, .int .u64, .int .u64, .int .u64, .int .u64, .int .u64, .int .u64, .int .u64, .int .u64, .int .u64, .int .u64], own := [false, false, false, false, false, false, false, false, false, false, false, false, false, false, false, false, false, false, false, false, false, false], ro := [0, 1, 2, 3, 4, 6, 7, 10, 11, 12], nx := 100 }
def regular_Automaton_into__1.Λ (a : Aut) (u : Bts) (w0 : Int) (w1 : Int) (w2 : Int) (w3 : Int) (w4 : Int) (w5 : Int) (w6 : Int) : Nat → Option (Loop (ElT [.bool])) := fun id =>
 if id = 0 then some (mkLoop regular_Automaton_into__1.L0
  (fun (c_ : (List Edg) × Int) (s_ : Int × Int × Int × Int × Int × Int × Int × Int × Int × Int × Int × Int × Int × Int × Int × Int × Int × Int × Int × Int × Int × Int) => match c_, s_ with | (l, m), (i, v0, v1, v2, v3, v4, v5, v6, s0, s1, s2, s3, s4, s5, s6, o0, o1, o2, o3, o4, o5, o6) => l = a.edges ∧ m = l.length ∧ l.length < 9223372036854775808 ∧ 0 ≤ i ∧ i ≤ l.length ∧ (v0 = w0 ∧ v1 = w1 ∧ v2 = w2 ∧ v3 = w3 ∧ v4 = w4 ∧ v5 = w5 ∧ v6 = w6) ∧ (⟨s0, s1, s2, s3, s4, s5, s6⟩ : Bts) = u)
  (fun (c_ : (List Edg) × Int) (s_ : Int × Int × Int × Int × Int × Int × Int × Int × Int × Int × Int × Int × Int × Int × Int × Int × Int × Int × Int × Int × Int × Int) => match c_, s_ with | (l, m), (i, v0, v1, v2, v3, v4, v5, v6, s0, s1, s2, s3, s4, s5, s6, o0, o1, o2, o3, o4, o5, o6) => (l.length - i : Int).toNat)
  (fun (c_ : (List Edg) × Int) (s_ : Int × Int × Int × Int × Int × Int × Int × Int × Int × Int × Int × Int × Int × Int × Int × Int × Int × Int × Int × Int × Int × Int) => match c_, s_ with | (l, m), (i, v0, v1, v2, v3, v4, v5, v6, s0, s1, s2, s3, s4, s5, s6, o0, o1, o2, o3, o4, o5, o6) => .brk ((l.length : Int), v0, v1, v2, v3, v4, v5, v6, s0, s1, s2, s3, s4, s5, s6, (Sp.bstep (Sp.inn1 ⟨w0, w1, w2, w3, w4, w5, w6⟩) u (l.drop i.toNat) ⟨o0, o1, o2, o3, o4, o5, o6⟩).b0, (Sp.bstep (Sp.inn1 ⟨w0, w1, w2, w3, w4, w5, w6⟩) u (l.drop i.toNat) ⟨o0, o1, o2, o3, o4, o5, o6⟩).b1, (Sp.bstep (Sp.inn1 ⟨w0, w1, w2, w3, w4, w5, w6⟩) u (l.drop i.toNat) ⟨o0, o1, o2, o3, o4, o5, o6⟩).b2, (Sp.bstep (Sp.inn1 ⟨w0, w1, w2, w3, w4, w5, w6⟩) u (l.drop i.toNat) ⟨o0, o1, o2, o3, o4, o5, o6⟩).b3, (Sp.bstep (Sp.inn1 ⟨w0, w1, w2, w3, w4, w5, w6⟩) u (l.drop i.toNat) ⟨o0, o1, o2, o3, o4, o5, o6⟩).b4, (Sp.bstep (Sp.inn1 ⟨w0, w1, w2, w3, w4, w5, w6⟩) u (l.drop i.toNat) ⟨o0, o1, o2, o3, o4, o5, o6⟩).b5, (Sp.bstep (Sp.inn1 ⟨w0, w1, w2, w3, w4, w5, w6⟩) u (l.drop i.toNat) ⟨o0, o1, o2, o3, o4, o5, o6⟩).b6)) [] false) else
 none
def regular_Automaton_into__1.C : Ctr := memCtr regular_Automaton_into__1.d [.nm 8] (some (fun (c_ : ElT [.nm 7, .nm 8]) (s_ : ElT [.int .u64, .int .u64, .int .u64, .int .u64, .int .u64, .int .u64, .int .u64]) => match c_, s_ with | (a, u), (w0, w1, w2, w3, w4, w5, w6) => ∀ e ∈ a.edges, Sp.okE e)) (fun (c_ : ElT [.nm 7, .nm 8]) (s_ : ElT [.int .u64, .int .u64, .int .u64, .int .u64, .int .u64, .int .u64, .int .u64]) => match c_, s_ with | (a, u), (w0, w1, w2, w3, w4, w5, w6) => ((Sp.binto a.edges u (Sp.inn1 ⟨w0, w1, w2, w3, w4, w5, w6⟩), (w0, w1, w2, w3, w4, w5, w6))))
end Go.AL
namespace Go.AL
set_option linter.unusedVariables false
set_option maxRecDepth 10000
def regular_Automaton_accepting_1.t (e : Edg) (w0 : Int) (w1 : Int) (w2 : Int) (w3 : Int) (w4 : Int) (w5 : Int) (w6 : Int) : Prop :=
 (decide (Edg.kind e=5)=true→0≤Edg.inner e∧Edg.inner e < 400)∧(Sp.inn1 (Bts.mk w0 w1 w2 w3 w4 w5 w6) e, w0, w1, w2, w3, w4, w5, w6)=(decide (Edg.kind e=5) && Sp.bhas (Bts.mk w0 w1 w2 w3 w4 w5 w6) (Edg.inner e), w0, w1, w2, w3, w4, w5, w6)
def regular_Automaton_accepting_2.t (e : Edg) (k : Int) (x : ByteArray) (ks : (List Tm)) : Prop :=
 (1≤Edg.kind e∧Edg.kind e≤5)∧∀ b : Bool, Sp.rreads (Edg.mk (Edg.src e) (Edg.dst e) (Edg.kind e) (Tm.mk (Tm.kind (Edg.sym e)) (Tm.text (Edg.sym e)) (Tm.kids (Edg.sym e))) (Edg.exc e) (Edg.inner e)) (Tm.mk k x ks)=b→(Sp.rreads e (Tm.mk k x ks), k, x, ks)=(b, k, x, ks)
def regular_Automaton_into__1.l0 (a : Aut) (w0 : Int) (w1 : Int) (w2 : Int) (w3 : Int) (w4 : Int) (w5 : Int) (w6 : Int) (u : Bts) : Prop :=
 ∀ l : List Edg, ∀ i i1 i2 i3 i4 i5 i6 i7 i8 i9 i10 i11 i12 i13 i14 i15 i16 i17 i18 i19 i20 i21 i22 : Int, l=Aut.edges a∧i=(↑(List.length l) : Int)∧List.length l < 9223372036854775808∧0≤i1∧i1≤(↑(List.length l) : Int)∧(i2=w0∧i3=w1∧i4=w2∧i5=w3∧i6=w4∧i7=w5∧i8=w6)∧Bts.mk i9 i10 i11 i12 i13 i14 i15=u→ifB (decide (i1 < i)) ((0≤i1∧i1 < (↑(List.length l) : Int))∧(0≤Edg.dst (nth Inhabited.default l i1)∧Edg.dst (nth Inhabited.default l i1) < 400)∧∀ b : Bool, Sp.bhas (Bts.mk i9 i10 i11 i12 i13 i14 i15) (Edg.dst (nth Inhabited.default l i1))=b→(b=true→(Edg.kind (nth Inhabited.default l i1)=5→0≤Edg.inner (nth Inhabited.default l i1)∧Edg.inner (nth Inhabited.default l i1) < 400)∧∀ b1 : Bool, ∀ i23 i24 i25 i26 i27 i28 i29 : Int, (Sp.inn1 (Bts.mk i2 i3 i4 i5 i6 i7 i8) (Edg.mk (Edg.src (nth Inhabited.default l i1)) (Edg.dst (nth Inhabited.default l i1)) (Edg.kind (nth Inhabited.default l i1)) (Tm.mk (Tm.kind (Edg.sym (nth Inhabited.default l i1))) (Tm.text (Edg.sym (nth Inhabited.default l i1))) (Tm.kids (Edg.sym (nth Inhabited.default l i1)))) (Edg.exc (nth Inhabited.default l i1)) (Edg.inner (nth Inhabited.default l i1))), i2, i3, i4, i5, i6, i7, i8)=(b1, i23, i24, i25, i26, i27, i28, i29)→ifB (b && b1) ((0≤Edg.src (nth Inhabited.default l i1)∧Edg.src (nth Inhabited.default l i1) < 400)∧∀ i30 i31 i32 i33 i34 i35 i36 : Int, ((), Bts.b0 (Sp.bput (Bts.mk i16 i17 i18 i19 i20 i21 i22) (Edg.src (nth Inhabited.default l i1))), Bts.b1 (Sp.bput (Bts.mk i16 i17 i18 i19 i20 i21 i22) (Edg.src (nth Inhabited.default l i1))), Bts.b2 (Sp.bput (Bts.mk i16 i17 i18 i19 i20 i21 i22) (Edg.src (nth Inhabited.default l i1))), Bts.b3 (Sp.bput (Bts.mk i16 i17 i18 i19 i20 i21 i22) (Edg.src (nth Inhabited.default l i1))), Bts.b4 (Sp.bput (Bts.mk i16 i17 i18 i19 i20 i21 i22) (Edg.src (nth Inhabited.default l i1))), Bts.b5 (Sp.bput (Bts.mk i16 i17 i18 i19 i20 i21 i22) (Edg.src (nth Inhabited.default l i1))), Bts.b6 (Sp.bput (Bts.mk i16 i17 i18 i19 i20 i21 i22) (Edg.src (nth Inhabited.default l i1))))=((), i30, i31, i32, i33, i34, i35, i36)→inR .i64 (i1 + 1)∧(l=Aut.edges a∧i=(↑(List.length l) : Int)∧List.length l < 9223372036854775808∧0≤i1 + 1∧i1 + 1≤(↑(List.length l) : Int)∧(i23=w0∧i24=w1∧i25=w2∧i26=w3∧i27=w4∧i28=w5∧i29=w6)∧Bts.mk i9 i10 i11 i12 i13 i14 i15=u)∧Int.toNat ((↑(List.length l) : Int) - (i1 + 1)) < Int.toNat ((↑(List.length l) : Int) - i1)∧(LOut.brk ((↑(List.length l) : Int), i23, i24, i25, i26, i27, i28, i29, i9, i10, i11, i12, i13, i14, i15, Bts.b0 (Sp.bstep (Sp.inn1 (Bts.mk w0 w1 w2 w3 w4 w5 w6)) u (List.drop (Int.toNat (i1 + 1)) l) (Bts.mk i30 i31 i32 i33 i34 i35 i36)), Bts.b1 (Sp.bstep (Sp.inn1 (Bts.mk w0 w1 w2 w3 w4 w5 w6)) u (List.drop (Int.toNat (i1 + 1)) l) (Bts.mk i30 i31 i32 i33 i34 i35 i36)), Bts.b2 (Sp.bstep (Sp.inn1 (Bts.mk w0 w1 w2 w3 w4 w5 w6)) u (List.drop (Int.toNat (i1 + 1)) l) (Bts.mk i30 i31 i32 i33 i34 i35 i36)), Bts.b3 (Sp.bstep (Sp.inn1 (Bts.mk w0 w1 w2 w3 w4 w5 w6)) u (List.drop (Int.toNat (i1 + 1)) l) (Bts.mk i30 i31 i32 i33 i34 i35 i36)), Bts.b4 (Sp.bstep (Sp.inn1 (Bts.mk w0 w1 w2 w3 w4 w5 w6)) u (List.drop (Int.toNat (i1 + 1)) l) (Bts.mk i30 i31 i32 i33 i34 i35 i36)), Bts.b5 (Sp.bstep (Sp.inn1 (Bts.mk w0 w1 w2 w3 w4 w5 w6)) u (List.drop (Int.toNat (i1 + 1)) l) (Bts.mk i30 i31 i32 i33 i34 i35 i36)), Bts.b6 (Sp.bstep (Sp.inn1 (Bts.mk w0 w1 w2 w3 w4 w5 w6)) u (List.drop (Int.toNat (i1 + 1)) l) (Bts.mk i30 i31 i32 i33 i34 i35 i36))) : LOut _ Bool)=LOut.brk ((↑(List.length l) : Int), i2, i3, i4, i5, i6, i7, i8, i9, i10, i11, i12, i13, i14, i15, Bts.b0 (Sp.bstep (Sp.inn1 (Bts.mk w0 w1 w2 w3 w4 w5 w6)) u (List.drop (Int.toNat i1) l) (Bts.mk i16 i17 i18 i19 i20 i21 i22)), Bts.b1 (Sp.bstep (Sp.inn1 (Bts.mk w0 w1 w2 w3 w4 w5 w6)) u (List.drop (Int.toNat i1) l) (Bts.mk i16 i17 i18 i19 i20 i21 i22)), Bts.b2 (Sp.bstep (Sp.inn1 (Bts.mk w0 w1 w2 w3 w4 w5 w6)) u (List.drop (Int.toNat i1) l) (Bts.mk i16 i17 i18 i19 i20 i21 i22)), Bts.b3 (Sp.bstep (Sp.inn1 (Bts.mk w0 w1 w2 w3 w4 w5 w6)) u (List.drop (Int.toNat i1) l) (Bts.mk i16 i17 i18 i19 i20 i21 i22)), Bts.b4 (Sp.bstep (Sp.inn1 (Bts.mk w0 w1 w2 w3 w4 w5 w6)) u (List.drop (Int.toNat i1) l) (Bts.mk i16 i17 i18 i19 i20 i21 i22)), Bts.b5 (Sp.bstep (Sp.inn1 (Bts.mk w0 w1 w2 w3 w4 w5 w6)) u (List.drop (Int.toNat i1) l) (Bts.mk i16 i17 i18 i19 i20 i21 i22)), Bts.b6 (Sp.bstep (Sp.inn1 (Bts.mk w0 w1 w2 w3 w4 w5 w6)) u (List.drop (Int.toNat i1) l) (Bts.mk i16 i17 i18 i19 i20 i21 i22)))) (inR .i64 (i1 + 1)∧(l=Aut.edges a∧i=(↑(List.length l) : Int)∧List.length l < 9223372036854775808∧0≤i1 + 1∧i1 + 1≤(↑(List.length l) : Int)∧(i23=w0∧i24=w1∧i25=w2∧i26=w3∧i27=w4∧i28=w5∧i29=w6)∧Bts.mk i9 i10 i11 i12 i13 i14 i15=u)∧Int.toNat ((↑(List.length l) : Int) - (i1 + 1)) < Int.toNat ((↑(List.length l) : Int) - i1)∧(LOut.brk ((↑(List.length l) : Int), i23, i24, i25, i26, i27, i28, i29, i9, i10, i11, i12, i13, i14, i15, Bts.b0 (Sp.bstep (Sp.inn1 (Bts.mk w0 w1 w2 w3 w4 w5 w6)) u (List.drop (Int.toNat (i1 + 1)) l) (Bts.mk i16 i17 i18 i19 i20 i21 i22)), Bts.b1 (Sp.bstep (Sp.inn1 (Bts.mk w0 w1 w2 w3 w4 w5 w6)) u (List.drop (Int.toNat (i1 + 1)) l) (Bts.mk i16 i17 i18 i19 i20 i21 i22)), Bts.b2 (Sp.bstep (Sp.inn1 (Bts.mk w0 w1 w2 w3 w4 w5 w6)) u (List.drop (Int.toNat (i1 + 1)) l) (Bts.mk i16 i17 i18 i19 i20 i21 i22)), Bts.b3 (Sp.bstep (Sp.inn1 (Bts.mk w0 w1 w2 w3 w4 w5 w6)) u (List.drop (Int.toNat (i1 + 1)) l) (Bts.mk i16 i17 i18 i19 i20 i21 i22)), Bts.b4 (Sp.bstep (Sp.inn1 (Bts.mk w0 w1 w2 w3 w4 w5 w6)) u (List.drop (Int.toNat (i1 + 1)) l) (Bts.mk i16 i17 i18 i19 i20 i21 i22)), Bts.b5 (Sp.bstep (Sp.inn1 (Bts.mk w0 w1 w2 w3 w4 w5 w6)) u (List.drop (Int.toNat (i1 + 1)) l) (Bts.mk i16 i17 i18 i19 i20 i21 i22)), Bts.b6 (Sp.bstep (Sp.inn1 (Bts.mk w0 w1 w2 w3 w4 w5 w6)) u (List.drop (Int.toNat (i1 + 1)) l) (Bts.mk i16 i17 i18 i19 i20 i21 i22))) : LOut _ Bool)=LOut.brk ((↑(List.length l) : Int), i2, i3, i4, i5, i6, i7, i8, i9, i10, i11, i12, i13, i14, i15, Bts.b0 (Sp.bstep (Sp.inn1 (Bts.mk w0 w1 w2 w3 w4 w5 w6)) u (List.drop (Int.toNat i1) l) (Bts.mk i16 i17 i18 i19 i20 i21 i22)), Bts.b1 (Sp.bstep (Sp.inn1 (Bts.mk w0 w1 w2 w3 w4 w5 w6)) u (List.drop (Int.toNat i1) l) (Bts.mk i16 i17 i18 i19 i20 i21 i22)), Bts.b2 (Sp.bstep (Sp.inn1 (Bts.mk w0 w1 w2 w3 w4 w5 w6)) u (List.drop (Int.toNat i1) l) (Bts.mk i16 i17 i18 i19 i20 i21 i22)), Bts.b3 (Sp.bstep (Sp.inn1 (Bts.mk w0 w1 w2 w3 w4 w5 w6)) u (List.drop (Int.toNat i1) l) (Bts.mk i16 i17 i18 i19 i20 i21 i22)), Bts.b4 (Sp.bstep (Sp.inn1 (Bts.mk w0 w1 w2 w3 w4 w5 w6)) u (List.drop (Int.toNat i1) l) (Bts.mk i16 i17 i18 i19 i20 i21 i22)), Bts.b5 (Sp.bstep (Sp.inn1 (Bts.mk w0 w1 w2 w3 w4 w5 w6)) u (List.drop (Int.toNat i1) l) (Bts.mk i16 i17 i18 i19 i20 i21 i22)), Bts.b6 (Sp.bstep (Sp.inn1 (Bts.mk w0 w1 w2 w3 w4 w5 w6)) u (List.drop (Int.toNat i1) l) (Bts.mk i16 i17 i18 i19 i20 i21 i22)))))∧(b=(!true)→ifB (b && false) ((0≤Edg.src (nth Inhabited.default l i1)∧Edg.src (nth Inhabited.default l i1) < 400)∧∀ i23 i24 i25 i26 i27 i28 i29 : Int, ((), Bts.b0 (Sp.bput (Bts.mk i16 i17 i18 i19 i20 i21 i22) (Edg.src (nth Inhabited.default l i1))), Bts.b1 (Sp.bput (Bts.mk i16 i17 i18 i19 i20 i21 i22) (Edg.src (nth Inhabited.default l i1))), Bts.b2 (Sp.bput (Bts.mk i16 i17 i18 i19 i20 i21 i22) (Edg.src (nth Inhabited.default l i1))), Bts.b3 (Sp.bput (Bts.mk i16 i17 i18 i19 i20 i21 i22) (Edg.src (nth Inhabited.default l i1))), Bts.b4 (Sp.bput (Bts.mk i16 i17 i18 i19 i20 i21 i22) (Edg.src (nth Inhabited.default l i1))), Bts.b5 (Sp.bput (Bts.mk i16 i17 i18 i19 i20 i21 i22) (Edg.src (nth Inhabited.default l i1))), Bts.b6 (Sp.bput (Bts.mk i16 i17 i18 i19 i20 i21 i22) (Edg.src (nth Inhabited.default l i1))))=((), i23, i24, i25, i26, i27, i28, i29)→inR .i64 (i1 + 1)∧(l=Aut.edges a∧i=(↑(List.length l) : Int)∧List.length l < 9223372036854775808∧0≤i1 + 1∧i1 + 1≤(↑(List.length l) : Int)∧(i2=w0∧i3=w1∧i4=w2∧i5=w3∧i6=w4∧i7=w5∧i8=w6)∧Bts.mk i9 i10 i11 i12 i13 i14 i15=u)∧Int.toNat ((↑(List.length l) : Int) - (i1 + 1)) < Int.toNat ((↑(List.length l) : Int) - i1)∧(LOut.brk ((↑(List.length l) : Int), i2, i3, i4, i5, i6, i7, i8, i9, i10, i11, i12, i13, i14, i15, Bts.b0 (Sp.bstep (Sp.inn1 (Bts.mk w0 w1 w2 w3 w4 w5 w6)) u (List.drop (Int.toNat (i1 + 1)) l) (Bts.mk i23 i24 i25 i26 i27 i28 i29)), Bts.b1 (Sp.bstep (Sp.inn1 (Bts.mk w0 w1 w2 w3 w4 w5 w6)) u (List.drop (Int.toNat (i1 + 1)) l) (Bts.mk i23 i24 i25 i26 i27 i28 i29)), Bts.b2 (Sp.bstep (Sp.inn1 (Bts.mk w0 w1 w2 w3 w4 w5 w6)) u (List.drop (Int.toNat (i1 + 1)) l) (Bts.mk i23 i24 i25 i26 i27 i28 i29)), Bts.b3 (Sp.bstep (Sp.inn1 (Bts.mk w0 w1 w2 w3 w4 w5 w6)) u (List.drop (Int.toNat (i1 + 1)) l) (Bts.mk i23 i24 i25 i26 i27 i28 i29)), Bts.b4 (Sp.bstep (Sp.inn1 (Bts.mk w0 w1 w2 w3 w4 w5 w6)) u (List.drop (Int.toNat (i1 + 1)) l) (Bts.mk i23 i24 i25 i26 i27 i28 i29)), Bts.b5 (Sp.bstep (Sp.inn1 (Bts.mk w0 w1 w2 w3 w4 w5 w6)) u (List.drop (Int.toNat (i1 + 1)) l) (Bts.mk i23 i24 i25 i26 i27 i28 i29)), Bts.b6 (Sp.bstep (Sp.inn1 (Bts.mk w0 w1 w2 w3 w4 w5 w6)) u (List.drop (Int.toNat (i1 + 1)) l) (Bts.mk i23 i24 i25 i26 i27 i28 i29))) : LOut _ Bool)=LOut.brk ((↑(List.length l) : Int), i2, i3, i4, i5, i6, i7, i8, i9, i10, i11, i12, i13, i14, i15, Bts.b0 (Sp.bstep (Sp.inn1 (Bts.mk w0 w1 w2 w3 w4 w5 w6)) u (List.drop (Int.toNat i1) l) (Bts.mk i16 i17 i18 i19 i20 i21 i22)), Bts.b1 (Sp.bstep (Sp.inn1 (Bts.mk w0 w1 w2 w3 w4 w5 w6)) u (List.drop (Int.toNat i1) l) (Bts.mk i16 i17 i18 i19 i20 i21 i22)), Bts.b2 (Sp.bstep (Sp.inn1 (Bts.mk w0 w1 w2 w3 w4 w5 w6)) u (List.drop (Int.toNat i1) l) (Bts.mk i16 i17 i18 i19 i20 i21 i22)), Bts.b3 (Sp.bstep (Sp.inn1 (Bts.mk w0 w1 w2 w3 w4 w5 w6)) u (List.drop (Int.toNat i1) l) (Bts.mk i16 i17 i18 i19 i20 i21 i22)), Bts.b4 (Sp.bstep (Sp.inn1 (Bts.mk w0 w1 w2 w3 w4 w5 w6)) u (List.drop (Int.toNat i1) l) (Bts.mk i16 i17 i18 i19 i20 i21 i22)), Bts.b5 (Sp.bstep (Sp.inn1 (Bts.mk w0 w1 w2 w3 w4 w5 w6)) u (List.drop (Int.toNat i1) l) (Bts.mk i16 i17 i18 i19 i20 i21 i22)), Bts.b6 (Sp.bstep (Sp.inn1 (Bts.mk w0 w1 w2 w3 w4 w5 w6)) u (List.drop (Int.toNat i1) l) (Bts.mk i16 i17 i18 i19 i20 i21 i22)))) (inR .i64 (i1 + 1)∧(l=Aut.edges a∧i=(↑(List.length l) : Int)∧List.length l < 9223372036854775808∧0≤i1 + 1∧i1 + 1≤(↑(List.length l) : Int)∧(i2=w0∧i3=w1∧i4=w2∧i5=w3∧i6=w4∧i7=w5∧i8=w6)∧Bts.mk i9 i10 i11 i12 i13 i14 i15=u)∧Int.toNat ((↑(List.length l) : Int) - (i1 + 1)) < Int.toNat ((↑(List.length l) : Int) - i1)∧(LOut.brk ((↑(List.length l) : Int), i2, i3, i4, i5, i6, i7, i8, i9, i10, i11, i12, i13, i14, i15, Bts.b0 (Sp.bstep (Sp.inn1 (Bts.mk w0 w1 w2 w3 w4 w5 w6)) u (List.drop (Int.toNat (i1 + 1)) l) (Bts.mk i16 i17 i18 i19 i20 i21 i22)), Bts.b1 (Sp.bstep (Sp.inn1 (Bts.mk w0 w1 w2 w3 w4 w5 w6)) u (List.drop (Int.toNat (i1 + 1)) l) (Bts.mk i16 i17 i18 i19 i20 i21 i22)), Bts.b2 (Sp.bstep (Sp.inn1 (Bts.mk w0 w1 w2 w3 w4 w5 w6)) u (List.drop (Int.toNat (i1 + 1)) l) (Bts.mk i16 i17 i18 i19 i20 i21 i22)), Bts.b3 (Sp.bstep (Sp.inn1 (Bts.mk w0 w1 w2 w3 w4 w5 w6)) u (List.drop (Int.toNat (i1 + 1)) l) (Bts.mk i16 i17 i18 i19 i20 i21 i22)), Bts.b4 (Sp.bstep (Sp.inn1 (Bts.mk w0 w1 w2 w3 w4 w5 w6)) u (List.drop (Int.toNat (i1 + 1)) l) (Bts.mk i16 i17 i18 i19 i20 i21 i22)), Bts.b5 (Sp.bstep (Sp.inn1 (Bts.mk w0 w1 w2 w3 w4 w5 w6)) u (List.drop (Int.toNat (i1 + 1)) l) (Bts.mk i16 i17 i18 i19 i20 i21 i22)), Bts.b6 (Sp.bstep (Sp.inn1 (Bts.mk w0 w1 w2 w3 w4 w5 w6)) u (List.drop (Int.toNat (i1 + 1)) l) (Bts.mk i16 i17 i18 i19 i20 i21 i22))) : LOut _ Bool)=LOut.brk ((↑(List.length l) : Int), i2, i3, i4, i5, i6, i7, i8, i9, i10, i11, i12, i13, i14, i15, Bts.b0 (Sp.bstep (Sp.inn1 (Bts.mk w0 w1 w2 w3 w4 w5 w6)) u (List.drop (Int.toNat i1) l) (Bts.mk i16 i17 i18 i19 i20 i21 i22)), Bts.b1 (Sp.bstep (Sp.inn1 (Bts.mk w0 w1 w2 w3 w4 w5 w6)) u (List.drop (Int.toNat i1) l) (Bts.mk i16 i17 i18 i19 i20 i21 i22)), Bts.b2 (Sp.bstep (Sp.inn1 (Bts.mk w0 w1 w2 w3 w4 w5 w6)) u (List.drop (Int.toNat i1) l) (Bts.mk i16 i17 i18 i19 i20 i21 i22)), Bts.b3 (Sp.bstep (Sp.inn1 (Bts.mk w0 w1 w2 w3 w4 w5 w6)) u (List.drop (Int.toNat i1) l) (Bts.mk i16 i17 i18 i19 i20 i21 i22)), Bts.b4 (Sp.bstep (Sp.inn1 (Bts.mk w0 w1 w2 w3 w4 w5 w6)) u (List.drop (Int.toNat i1) l) (Bts.mk i16 i17 i18 i19 i20 i21 i22)), Bts.b5 (Sp.bstep (Sp.inn1 (Bts.mk w0 w1 w2 w3 w4 w5 w6)) u (List.drop (Int.toNat i1) l) (Bts.mk i16 i17 i18 i19 i20 i21 i22)), Bts.b6 (Sp.bstep (Sp.inn1 (Bts.mk w0 w1 w2 w3 w4 w5 w6)) u (List.drop (Int.toNat i1) l) (Bts.mk i16 i17 i18 i19 i20 i21 i22)))))) ((LOut.brk ((↑(List.length l) : Int), i2, i3, i4, i5, i6, i7, i8, i9, i10, i11, i12, i13, i14, i15, Bts.b0 (Sp.bstep (Sp.inn1 (Bts.mk w0 w1 w2 w3 w4 w5 w6)) u (List.drop (Int.toNat i1) l) (Bts.mk i16 i17 i18 i19 i20 i21 i22)), Bts.b1 (Sp.bstep (Sp.inn1 (Bts.mk w0 w1 w2 w3 w4 w5 w6)) u (List.drop (Int.toNat i1) l) (Bts.mk i16 i17 i18 i19 i20 i21 i22)), Bts.b2 (Sp.bstep (Sp.inn1 (Bts.mk w0 w1 w2 w3 w4 w5 w6)) u (List.drop (Int.toNat i1) l) (Bts.mk i16 i17 i18 i19 i20 i21 i22)), Bts.b3 (Sp.bstep (Sp.inn1 (Bts.mk w0 w1 w2 w3 w4 w5 w6)) u (List.drop (Int.toNat i1) l) (Bts.mk i16 i17 i18 i19 i20 i21 i22)), Bts.b4 (Sp.bstep (Sp.inn1 (Bts.mk w0 w1 w2 w3 w4 w5 w6)) u (List.drop (Int.toNat i1) l) (Bts.mk i16 i17 i18 i19 i20 i21 i22)), Bts.b5 (Sp.bstep (Sp.inn1 (Bts.mk w0 w1 w2 w3 w4 w5 w6)) u (List.drop (Int.toNat i1) l) (Bts.mk i16 i17 i18 i19 i20 i21 i22)), Bts.b6 (Sp.bstep (Sp.inn1 (Bts.mk w0 w1 w2 w3 w4 w5 w6)) u (List.drop (Int.toNat i1) l) (Bts.mk i16 i17 i18 i19 i20 i21 i22))) : LOut _ Bool)=LOut.brk (i1, i2, i3, i4, i5, i6, i7, i8, i9, i10, i11, i12, i13, i14, i15, i16, i17, i18, i19, i20, i21, i22))
def regular_Automaton_into__1.t (a : Aut) (u : Bts) (w0 : Int) (w1 : Int) (w2 : Int) (w3 : Int) (w4 : Int) (w5 : Int) (w6 : Int) : Prop :=
 List.length (Aut.edges a) < 9223372036854775808→(Aut.edges a=Aut.edges a∧(↑(List.length (Aut.edges a)) : Int)=(↑(List.length (Aut.edges a)) : Int)∧List.length (Aut.edges a) < 9223372036854775808∧(0 : Int)≤0∧0≤(↑(List.length (Aut.edges a)) : Int)∧(w0=w0∧w1=w1∧w2=w2∧w3=w3∧w4=w4∧w5=w5∧w6=w6)∧u=u)∧regular_Automaton_into__1.l0 a w0 w1 w2 w3 w4 w5 w6 u∧∀ i i1 i2 i3 i4 i5 i6 i7 i8 i9 i10 i11 i12 i13 i14 i15 i16 i17 i18 i19 i20 i21 : Int, (LOut.brk ((↑(List.length (Aut.edges a)) : Int), w0, w1, w2, w3, w4, w5, w6, Bts.b0 u, Bts.b1 u, Bts.b2 u, Bts.b3 u, Bts.b4 u, Bts.b5 u, Bts.b6 u, Bts.b0 (Sp.bstep (Sp.inn1 (Bts.mk w0 w1 w2 w3 w4 w5 w6)) u (List.drop (Int.toNat 0) (Aut.edges a)) (Bts.mk 0 0 0 0 0 0 0)), Bts.b1 (Sp.bstep (Sp.inn1 (Bts.mk w0 w1 w2 w3 w4 w5 w6)) u (List.drop (Int.toNat 0) (Aut.edges a)) (Bts.mk 0 0 0 0 0 0 0)), Bts.b2 (Sp.bstep (Sp.inn1 (Bts.mk w0 w1 w2 w3 w4 w5 w6)) u (List.drop (Int.toNat 0) (Aut.edges a)) (Bts.mk 0 0 0 0 0 0 0)), Bts.b3 (Sp.bstep (Sp.inn1 (Bts.mk w0 w1 w2 w3 w4 w5 w6)) u (List.drop (Int.toNat 0) (Aut.edges a)) (Bts.mk 0 0 0 0 0 0 0)), Bts.b4 (Sp.bstep (Sp.inn1 (Bts.mk w0 w1 w2 w3 w4 w5 w6)) u (List.drop (Int.toNat 0) (Aut.edges a)) (Bts.mk 0 0 0 0 0 0 0)), Bts.b5 (Sp.bstep (Sp.inn1 (Bts.mk w0 w1 w2 w3 w4 w5 w6)) u (List.drop (Int.toNat 0) (Aut.edges a)) (Bts.mk 0 0 0 0 0 0 0)), Bts.b6 (Sp.bstep (Sp.inn1 (Bts.mk w0 w1 w2 w3 w4 w5 w6)) u (List.drop (Int.toNat 0) (Aut.edges a)) (Bts.mk 0 0 0 0 0 0 0))) : LOut _ Bool)=LOut.brk (i, i1, i2, i3, i4, i5, i6, i7, i8, i9, i10, i11, i12, i13, i14, i15, i16, i17, i18, i19, i20, i21)→(Sp.binto (Aut.edges a) u (Sp.inn1 (Bts.mk w0 w1 w2 w3 w4 w5 w6)), w0, w1, w2, w3, w4, w5, w6)=(Bts.mk i15 i16 i17 i18 i19 i20 i21, i1, i2, i3, i4, i5, i6, i7)
end Go.AL
namespace Go.AL
set_option linter.unusedVariables false
set_option linter.unusedSimpArgs false
set_option maxRecDepth 10000
attribute [local irreducible] wpF wpFX wpM wpFM
theorem regular_Automaton_accepting_1.main (e : Edg) (w0 w1 w2 w3 w4 w5 w6 : Int) (ha : e.kind = 5 → 0 ≤ e.inner ∧ e.inner < 400) : regular_Automaton_accepting_1.t e w0 w1 w2 w3 w4 w5 w6 := by
 refine ⟨fun h => ha (by simpa using h), rfl⟩
theorem regular_Automaton_accepting_1.ok (W : World) : CtrOK Go.Proofs.Tryz.prog W 48 regular_Automaton_accepting_1.C := by
 refine memOK (d := regular_Automaton_accepting_1.d) (Γ := lookC [(21, regular_set_has.C)]) (lookC_ok (fun p hp => by
  simp only [List.mem_cons, List.not_mem_nil, or_false] at hp
  subst hp; exact regular_set_has.ok W)) (Λ := fun c_ s_ => match c_, s_ with | e, (w0, w1, w2, w3, w4, w5, w6) => (fun _ => none)) (Λr := fun c_ s_ => match c_, s_ with | e, (w0, w1, w2, w3, w4, w5, w6) => (fun _ => none)) ?_
 intro c s hp
 obtain ⟨w0, w1, w2, w3, w4, w5, w6⟩ := s
 refine Eq.mpr ?_ (@regular_Automaton_accepting_1.main c w0 w1 w2 w3 w4 w5 w6 hp)
 kernel_rfl
theorem regular_Automaton_accepting_2.main (e : Edg) (k : Int) (x : ByteArray) (ks : List Tm) (ha : 1 ≤ e.kind ∧ e.kind ≤ 5) : regular_Automaton_accepting_2.t e k x ks := by
 refine ⟨ha, fun b hb => ?_⟩
 rw [Tm.eta] at hb
 rw [show e = Edg.mk e.src e.dst e.kind e.sym e.exc e.inner from rfl, hb]
theorem regular_Automaton_accepting_2.ok (W : World) : CtrOK Go.Proofs.Tryz.prog W 49 regular_Automaton_accepting_2.C := by
 refine memOK (d := regular_Automaton_accepting_2.d) (Γ := lookC [(50, regular_Edge_reads.C)]) (lookC_ok (fun p hp => by
  simp only [List.mem_cons, List.not_mem_nil, or_false] at hp
  subst hp; exact regular_Edge_reads.ok W)) (Λ := fun c_ s_ => match c_, s_ with | e, (k, x, ks) => (fun _ => none)) (Λr := fun c_ s_ => match c_, s_ with | e, (k, x, ks) => (fun _ => none)) ?_
 intro c s hp
 obtain ⟨k, x, ks⟩ := s
 refine Eq.mpr ?_ (@regular_Automaton_accepting_2.main c k x ks hp)
 kernel_rfl
theorem regular_Automaton_into__1.l0_ok (a : Aut) (u : Bts) (w0 w1 w2 w3 w4 w5 w6 : Int) (ha : ∀ e ∈ a.edges, Sp.okE e) : regular_Automaton_into__1.l0 a w0 w1 w2 w3 w4 w5 w6 u := by
 rintro l m i v0 v1 v2 v3 v4 v5 v6 s0 s1 s2 s3 s4 s5 s6 o0 o1 o2 o3 o4 o5 o6 ⟨e1, e2, h3, h1, h2, ⟨f0, f1, f2, f3, f4, f5, f6⟩, hf7⟩
 subst l m v0 v1 v2 v3 v4 v5 v6
 refine ifD (fun h => ?_) fun h => ?_
 ·have hi : i.toNat < a.edges.length := by omega
  have e1 : (i + 1).toNat = i.toNat + 1 := by omega
  obtain ⟨q1, q2, q3, q4⟩ := ha _ (nth_mem (d := default) hi)
  refine ⟨by omega, q2, ?_⟩
  rintro b hb
  rw [hf7] at hb
  have hk : Sp.bstep (Sp.inn1 ⟨w0, w1, w2, w3, w4, w5, w6⟩) u (List.drop i.toNat a.edges) ⟨o0, o1, o2, o3, o4, o5, o6⟩ = Sp.bstep (Sp.inn1 ⟨w0, w1, w2, w3, w4, w5, w6⟩) u (List.drop (i.toNat + 1) a.edges) (if (b && Sp.inn1 ⟨w0, w1, w2, w3, w4, w5, w6⟩ (nth default a.edges i)) = true then Sp.bput ⟨o0, o1, o2, o3, o4, o5, o6⟩ (nth default a.edges i).src else ⟨o0, o1, o2, o3, o4, o5, o6⟩) := by
   rw [nth_drop (d := default) hi, Sp.bstep, hb]
  refine ⟨fun hbt => ⟨q4, ?_⟩, fun hbf => ?_⟩
  ·rintro b1 c0 c1 c2 c3 c4 c5 c6 hq
   simp only [Prod.mk.injEq] at hq
   obtain ⟨g, g0, g1, g2, g3, g4, g5, g6⟩ := hq
   subst g0 g1 g2 g3 g4 g5 g6
   rw [Tm.eta] at g
   have g' : Sp.inn1 ⟨w0, w1, w2, w3, w4, w5, w6⟩ (nth default a.edges i) = b1 := g
   rw [g'] at hk
   refine ifB_of (fun h4 => ⟨q1, ?_⟩) fun h4 => ⟨inR64 (by omega), ⟨rfl, rfl, h3, by omega, by omega, ⟨rfl, rfl, rfl, rfl, rfl, rfl, rfl⟩, hf7⟩, by omega, ?_⟩
   ·rintro p0 p1 p2 p3 p4 p5 p6 hp
    simp only [Prod.mk.injEq, true_and] at hp
    obtain ⟨r0, r1, r2, r3, r4, r5, r6⟩ := hp
    subst r0 r1 r2 r3 r4 r5 r6
    refine ⟨inR64 (by omega), ⟨rfl, rfl, h3, by omega, by omega, ⟨rfl, rfl, rfl, rfl, rfl, rfl, rfl⟩, hf7⟩, by omega, ?_⟩
    rw [hk, e1, if_pos h4]
   ·rw [hk, e1, if_neg (by rw [h4]; simp)]
  ·subst hbf
   refine ifB_of (fun h4 => by simp at h4) fun h4 => ⟨inR64 (by omega), ⟨rfl, rfl, h3, by omega, by omega, ⟨rfl, rfl, rfl, rfl, rfl, rfl, rfl⟩, hf7⟩, by omega, ?_⟩
   rw [hk, e1, if_neg (by simp)]
 ·rw [List.drop_eq_nil_of_le (by omega), show i = a.edges.length by omega]
  rfl
theorem regular_Automaton_into__1.main (a : Aut) (u : Bts) (w0 w1 w2 w3 w4 w5 w6 : Int) (ha : ∀ e ∈ a.edges, Sp.okE e) : regular_Automaton_into__1.t a u w0 w1 w2 w3 w4 w5 w6 := by
 refine fun h => ⟨⟨rfl, rfl, h, by omega, by omega, ⟨rfl, rfl, rfl, rfl, rfl, rfl, rfl⟩, rfl⟩, regular_Automaton_into__1.l0_ok a u w0 w1 w2 w3 w4 w5 w6 ha, ?_⟩
 rintro i c0 c1 c2 c3 c4 c5 c6 s0 s1 s2 s3 s4 s5 s6 o0 o1 o2 o3 o4 o5 o6 hq
 simp only [LOut.brk.injEq, Prod.mk.injEq, Int.toNat_zero, List.drop_zero] at hq
 obtain ⟨_, g0, g1, g2, g3, g4, g5, g6, _, _, _, _, _, _, _, r0, r1, r2, r3, r4, r5, r6⟩ := hq
 subst g0 g1 g2 g3 g4 g5 g6 r0 r1 r2 r3 r4 r5 r6
 rfl
theorem regular_Automaton_into__1.ok (W : World) : CtrOK Go.Proofs.Tryz.prog W 47 regular_Automaton_into__1.C := by
 refine memOK (d := regular_Automaton_into__1.d) (Γ := lookC [(21, regular_set_has.C), (48, regular_Automaton_accepting_1.C), (69, regular_set_put.C)]) (lookC_ok (fun p hp => by
  simp only [List.mem_cons, List.not_mem_nil, or_false] at hp
  rcases hp with rfl | rfl | rfl
  ·exact regular_set_has.ok W
  ·exact regular_Automaton_accepting_1.ok W
  ·exact regular_set_put.ok W)) (Λ := fun c_ s_ => match c_, s_ with | (a, u), (w0, w1, w2, w3, w4, w5, w6) => (regular_Automaton_into__1.Λ a u w0 w1 w2 w3 w4 w5 w6)) (Λr := fun c_ s_ => match c_, s_ with | (a, u), (w0, w1, w2, w3, w4, w5, w6) => (fun _ => none)) ?_
 intro c s hp
 obtain ⟨a, u⟩ := c
 obtain ⟨w0, w1, w2, w3, w4, w5, w6⟩ := s
 refine Eq.mpr ?_ (@regular_Automaton_into__1.main a u w0 w1 w2 w3 w4 w5 w6 hp)
 kernel_rfl
end Go.AL
namespace Go.AL
set_option linter.unusedVariables false
def regular_Automaton_into__2.d : LD := ({ cs := [0, 1], cts := [.nm 7, .nm 8], pts := [(2, .fn 49 [] [.loc 0 0])], vs := [], os := [(0, .plain, [none, none, none])], vts := [.int .i64, .str, .lst (.nm 0)], own := [false, false, false], ro := [0, 1, 2], nx := 1 } : LD)
def regular_Automaton_into__2.L0 : LD := { cs := [11, 12], cts := [.lst (.nm 6), .int .i64], pts := [(2, (.fn 49 [] [(.loc 0 0)])), (4, (.loc 5 0)), (7, (.loc 7 0))], vs := [13], os := [(0, .plain, [none, none, none]), (5, .plain, [none, none, none, none, none, none, none]), (7, .plain, [none, none, none, none, none, none, none])], vts := [.int .i64, .int .i64, .str, .lst (.nm 0), .int .u64, .int .u64, .int .u64, .int .u64, .int .u64, .int .u64, .int .u64, .int .u64, .int .u64, .int .u64, .int .u64, .int .u64, .int .u64, .int .u64], own := [false, false, false, false, false, false, false, false, false, false, false, false, false, false, false, false, false, false], ro := [0, 1, 2, 3, 4, 6, 7, 10, 11, 12], nx := 100 }
def regular_Automaton_into__2.Λ (a : Aut) (u : Bts) (k : Int) (x : ByteArray) (ks : (List Tm)) : Nat → Option (Loop (ElT [.bool])) := fun id =>
 if id = 0 then some (mkLoop regular_Automaton_into__2.L0
  (fun (c_ : (List Edg) × Int) (s_ : Int × Int × ByteArray × (List Tm) × Int × Int × Int × Int × Int × Int × Int × Int × Int × Int × Int × Int × Int × Int) => match c_, s_ with | (l, m), (i, k1, x1, ks1, s0, s1, s2, s3, s4, s5, s6, o0, o1, o2, o3, o4, o5, o6) => l = a.edges ∧ m = l.length ∧ l.length < 9223372036854775808 ∧ 0 ≤ i ∧ i ≤ l.length ∧ (k1 = k ∧ x1 = x ∧ ks1 = ks) ∧ (⟨s0, s1, s2, s3, s4, s5, s6⟩ : Bts) = u)
  (fun (c_ : (List Edg) × Int) (s_ : Int × Int × ByteArray × (List Tm) × Int × Int × Int × Int × Int × Int × Int × Int × Int × Int × Int × Int × Int × Int) => match c_, s_ with | (l, m), (i, k1, x1, ks1, s0, s1, s2, s3, s4, s5, s6, o0, o1, o2, o3, o4, o5, o6) => (l.length - i : Int).toNat)
  (fun (c_ : (List Edg) × Int) (s_ : Int × Int × ByteArray × (List Tm) × Int × Int × Int × Int × Int × Int × Int × Int × Int × Int × Int × Int × Int × Int) => match c_, s_ with | (l, m), (i, k1, x1, ks1, s0, s1, s2, s3, s4, s5, s6, o0, o1, o2, o3, o4, o5, o6) => .brk ((l.length : Int), k1, x1, ks1, s0, s1, s2, s3, s4, s5, s6, (Sp.bstep (fun e => Sp.rreads e ⟨k, x, ks⟩) u (l.drop i.toNat) ⟨o0, o1, o2, o3, o4, o5, o6⟩).b0, (Sp.bstep (fun e => Sp.rreads e ⟨k, x, ks⟩) u (l.drop i.toNat) ⟨o0, o1, o2, o3, o4, o5, o6⟩).b1, (Sp.bstep (fun e => Sp.rreads e ⟨k, x, ks⟩) u (l.drop i.toNat) ⟨o0, o1, o2, o3, o4, o5, o6⟩).b2, (Sp.bstep (fun e => Sp.rreads e ⟨k, x, ks⟩) u (l.drop i.toNat) ⟨o0, o1, o2, o3, o4, o5, o6⟩).b3, (Sp.bstep (fun e => Sp.rreads e ⟨k, x, ks⟩) u (l.drop i.toNat) ⟨o0, o1, o2, o3, o4, o5, o6⟩).b4, (Sp.bstep (fun e => Sp.rreads e ⟨k, x, ks⟩) u (l.drop i.toNat) ⟨o0, o1, o2, o3, o4, o5, o6⟩).b5, (Sp.bstep (fun e => Sp.rreads e ⟨k, x, ks⟩) u (l.drop i.toNat) ⟨o0, o1, o2, o3, o4, o5, o6⟩).b6)) [] false) else
 none
def regular_Automaton_into__2.C : Ctr := memCtr regular_Automaton_into__2.d [.nm 8] (some (fun (c_ : ElT [.nm 7, .nm 8]) (s_ : ElT [.int .i64, .str, .lst (.nm 0)]) => match c_, s_ with | (a, u), (k, x, ks) => ∀ e ∈ a.edges, Sp.okE e)) (fun (c_ : ElT [.nm 7, .nm 8]) (s_ : ElT [.int .i64, .str, .lst (.nm 0)]) => match c_, s_ with | (a, u), (k, x, ks) => ((Sp.binto a.edges u (fun e => Sp.rreads e ⟨k, x, ks⟩), (k, x, ks))))
end Go.AL
namespace Go.AL
set_option linter.unusedVariables false
set_option maxRecDepth 10000
def regular_Automaton_into__2.l0 (a : Aut) (k : Int) (x : ByteArray) (ks : (List Tm)) (u : Bts) : Prop :=
 ∀ l : List Edg, ∀ i i1 i2 : Int, ∀ s : ByteArray, ∀ l1 : List Tm, ∀ i3 i4 i5 i6 i7 i8 i9 i10 i11 i12 i13 i14 i15 i16 : Int, l=Aut.edges a∧i=(↑(List.length l) : Int)∧List.length l < 9223372036854775808∧0≤i1∧i1≤(↑(List.length l) : Int)∧(i2=k∧s=x∧l1=ks)∧Bts.mk i3 i4 i5 i6 i7 i8 i9=u→ifB (decide (i1 < i)) ((0≤i1∧i1 < (↑(List.length l) : Int))∧(0≤Edg.dst (nth Inhabited.default l i1)∧Edg.dst (nth Inhabited.default l i1) < 400)∧∀ b : Bool, Sp.bhas (Bts.mk i3 i4 i5 i6 i7 i8 i9) (Edg.dst (nth Inhabited.default l i1))=b→(b=true→(1≤Edg.kind (nth Inhabited.default l i1)∧Edg.kind (nth Inhabited.default l i1)≤5)∧∀ b1 : Bool, ∀ i17 : Int, ∀ s1 : ByteArray, ∀ l2 : List Tm, (Sp.rreads (Edg.mk (Edg.src (nth Inhabited.default l i1)) (Edg.dst (nth Inhabited.default l i1)) (Edg.kind (nth Inhabited.default l i1)) (Tm.mk (Tm.kind (Edg.sym (nth Inhabited.default l i1))) (Tm.text (Edg.sym (nth Inhabited.default l i1))) (Tm.kids (Edg.sym (nth Inhabited.default l i1)))) (Edg.exc (nth Inhabited.default l i1)) (Edg.inner (nth Inhabited.default l i1))) (Tm.mk i2 s l1), i2, s, l1)=(b1, i17, s1, l2)→ifB (b && b1) ((0≤Edg.src (nth Inhabited.default l i1)∧Edg.src (nth Inhabited.default l i1) < 400)∧∀ i18 i19 i20 i21 i22 i23 i24 : Int, ((), Bts.b0 (Sp.bput (Bts.mk i10 i11 i12 i13 i14 i15 i16) (Edg.src (nth Inhabited.default l i1))), Bts.b1 (Sp.bput (Bts.mk i10 i11 i12 i13 i14 i15 i16) (Edg.src (nth Inhabited.default l i1))), Bts.b2 (Sp.bput (Bts.mk i10 i11 i12 i13 i14 i15 i16) (Edg.src (nth Inhabited.default l i1))), Bts.b3 (Sp.bput (Bts.mk i10 i11 i12 i13 i14 i15 i16) (Edg.src (nth Inhabited.default l i1))), Bts.b4 (Sp.bput (Bts.mk i10 i11 i12 i13 i14 i15 i16) (Edg.src (nth Inhabited.default l i1))), Bts.b5 (Sp.bput (Bts.mk i10 i11 i12 i13 i14 i15 i16) (Edg.src (nth Inhabited.default l i1))), Bts.b6 (Sp.bput (Bts.mk i10 i11 i12 i13 i14 i15 i16) (Edg.src (nth Inhabited.default l i1))))=((), i18, i19, i20, i21, i22, i23, i24)→inR .i64 (i1 + 1)∧(l=Aut.edges a∧i=(↑(List.length l) : Int)∧List.length l < 9223372036854775808∧0≤i1 + 1∧i1 + 1≤(↑(List.length l) : Int)∧(i17=k∧s1=x∧l2=ks)∧Bts.mk i3 i4 i5 i6 i7 i8 i9=u)∧Int.toNat ((↑(List.length l) : Int) - (i1 + 1)) < Int.toNat ((↑(List.length l) : Int) - i1)∧(LOut.brk ((↑(List.length l) : Int), i17, s1, l2, i3, i4, i5, i6, i7, i8, i9, Bts.b0 (Sp.bstep (fun x1 : Edg => Sp.rreads x1 (Tm.mk k x ks)) u (List.drop (Int.toNat (i1 + 1)) l) (Bts.mk i18 i19 i20 i21 i22 i23 i24)), Bts.b1 (Sp.bstep (fun x1 : Edg => Sp.rreads x1 (Tm.mk k x ks)) u (List.drop (Int.toNat (i1 + 1)) l) (Bts.mk i18 i19 i20 i21 i22 i23 i24)), Bts.b2 (Sp.bstep (fun x1 : Edg => Sp.rreads x1 (Tm.mk k x ks)) u (List.drop (Int.toNat (i1 + 1)) l) (Bts.mk i18 i19 i20 i21 i22 i23 i24)), Bts.b3 (Sp.bstep (fun x1 : Edg => Sp.rreads x1 (Tm.mk k x ks)) u (List.drop (Int.toNat (i1 + 1)) l) (Bts.mk i18 i19 i20 i21 i22 i23 i24)), Bts.b4 (Sp.bstep (fun x1 : Edg => Sp.rreads x1 (Tm.mk k x ks)) u (List.drop (Int.toNat (i1 + 1)) l) (Bts.mk i18 i19 i20 i21 i22 i23 i24)), Bts.b5 (Sp.bstep (fun x1 : Edg => Sp.rreads x1 (Tm.mk k x ks)) u (List.drop (Int.toNat (i1 + 1)) l) (Bts.mk i18 i19 i20 i21 i22 i23 i24)), Bts.b6 (Sp.bstep (fun x1 : Edg => Sp.rreads x1 (Tm.mk k x ks)) u (List.drop (Int.toNat (i1 + 1)) l) (Bts.mk i18 i19 i20 i21 i22 i23 i24))) : LOut _ Bool)=LOut.brk ((↑(List.length l) : Int), i2, s, l1, i3, i4, i5, i6, i7, i8, i9, Bts.b0 (Sp.bstep (fun x1 : Edg => Sp.rreads x1 (Tm.mk k x ks)) u (List.drop (Int.toNat i1) l) (Bts.mk i10 i11 i12 i13 i14 i15 i16)), Bts.b1 (Sp.bstep (fun x1 : Edg => Sp.rreads x1 (Tm.mk k x ks)) u (List.drop (Int.toNat i1) l) (Bts.mk i10 i11 i12 i13 i14 i15 i16)), Bts.b2 (Sp.bstep (fun x1 : Edg => Sp.rreads x1 (Tm.mk k x ks)) u (List.drop (Int.toNat i1) l) (Bts.mk i10 i11 i12 i13 i14 i15 i16)), Bts.b3 (Sp.bstep (fun x1 : Edg => Sp.rreads x1 (Tm.mk k x ks)) u (List.drop (Int.toNat i1) l) (Bts.mk i10 i11 i12 i13 i14 i15 i16)), Bts.b4 (Sp.bstep (fun x1 : Edg => Sp.rreads x1 (Tm.mk k x ks)) u (List.drop (Int.toNat i1) l) (Bts.mk i10 i11 i12 i13 i14 i15 i16)), Bts.b5 (Sp.bstep (fun x1 : Edg => Sp.rreads x1 (Tm.mk k x ks)) u (List.drop (Int.toNat i1) l) (Bts.mk i10 i11 i12 i13 i14 i15 i16)), Bts.b6 (Sp.bstep (fun x1 : Edg => Sp.rreads x1 (Tm.mk k x ks)) u (List.drop (Int.toNat i1) l) (Bts.mk i10 i11 i12 i13 i14 i15 i16)))) (inR .i64 (i1 + 1)∧(l=Aut.edges a∧i=(↑(List.length l) : Int)∧List.length l < 9223372036854775808∧0≤i1 + 1∧i1 + 1≤(↑(List.length l) : Int)∧(i17=k∧s1=x∧l2=ks)∧Bts.mk i3 i4 i5 i6 i7 i8 i9=u)∧Int.toNat ((↑(List.length l) : Int) - (i1 + 1)) < Int.toNat ((↑(List.length l) : Int) - i1)∧(LOut.brk ((↑(List.length l) : Int), i17, s1, l2, i3, i4, i5, i6, i7, i8, i9, Bts.b0 (Sp.bstep (fun x1 : Edg => Sp.rreads x1 (Tm.mk k x ks)) u (List.drop (Int.toNat (i1 + 1)) l) (Bts.mk i10 i11 i12 i13 i14 i15 i16)), Bts.b1 (Sp.bstep (fun x1 : Edg => Sp.rreads x1 (Tm.mk k x ks)) u (List.drop (Int.toNat (i1 + 1)) l) (Bts.mk i10 i11 i12 i13 i14 i15 i16)), Bts.b2 (Sp.bstep (fun x1 : Edg => Sp.rreads x1 (Tm.mk k x ks)) u (List.drop (Int.toNat (i1 + 1)) l) (Bts.mk i10 i11 i12 i13 i14 i15 i16)), Bts.b3 (Sp.bstep (fun x1 : Edg => Sp.rreads x1 (Tm.mk k x ks)) u (List.drop (Int.toNat (i1 + 1)) l) (Bts.mk i10 i11 i12 i13 i14 i15 i16)), Bts.b4 (Sp.bstep (fun x1 : Edg => Sp.rreads x1 (Tm.mk k x ks)) u (List.drop (Int.toNat (i1 + 1)) l) (Bts.mk i10 i11 i12 i13 i14 i15 i16)), Bts.b5 (Sp.bstep (fun x1 : Edg => Sp.rreads x1 (Tm.mk k x ks)) u (List.drop (Int.toNat (i1 + 1)) l) (Bts.mk i10 i11 i12 i13 i14 i15 i16)), Bts.b6 (Sp.bstep (fun x1 : Edg => Sp.rreads x1 (Tm.mk k x ks)) u (List.drop (Int.toNat (i1 + 1)) l) (Bts.mk i10 i11 i12 i13 i14 i15 i16))) : LOut _ Bool)=LOut.brk ((↑(List.length l) : Int), i2, s, l1, i3, i4, i5, i6, i7, i8, i9, Bts.b0 (Sp.bstep (fun x1 : Edg => Sp.rreads x1 (Tm.mk k x ks)) u (List.drop (Int.toNat i1) l) (Bts.mk i10 i11 i12 i13 i14 i15 i16)), Bts.b1 (Sp.bstep (fun x1 : Edg => Sp.rreads x1 (Tm.mk k x ks)) u (List.drop (Int.toNat i1) l) (Bts.mk i10 i11 i12 i13 i14 i15 i16)), Bts.b2 (Sp.bstep (fun x1 : Edg => Sp.rreads x1 (Tm.mk k x ks)) u (List.drop (Int.toNat i1) l) (Bts.mk i10 i11 i12 i13 i14 i15 i16)), Bts.b3 (Sp.bstep (fun x1 : Edg => Sp.rreads x1 (Tm.mk k x ks)) u (List.drop (Int.toNat i1) l) (Bts.mk i10 i11 i12 i13 i14 i15 i16)), Bts.b4 (Sp.bstep (fun x1 : Edg => Sp.rreads x1 (Tm.mk k x ks)) u (List.drop (Int.toNat i1) l) (Bts.mk i10 i11 i12 i13 i14 i15 i16)), Bts.b5 (Sp.bstep (fun x1 : Edg => Sp.rreads x1 (Tm.mk k x ks)) u (List.drop (Int.toNat i1) l) (Bts.mk i10 i11 i12 i13 i14 i15 i16)), Bts.b6 (Sp.bstep (fun x1 : Edg => Sp.rreads x1 (Tm.mk k x ks)) u (List.drop (Int.toNat i1) l) (Bts.mk i10 i11 i12 i13 i14 i15 i16)))))∧(b=(!true)→ifB (b && false) ((0≤Edg.src (nth Inhabited.default l i1)∧Edg.src (nth Inhabited.default l i1) < 400)∧∀ i17 i18 i19 i20 i21 i22 i23 : Int, ((), Bts.b0 (Sp.bput (Bts.mk i10 i11 i12 i13 i14 i15 i16) (Edg.src (nth Inhabited.default l i1))), Bts.b1 (Sp.bput (Bts.mk i10 i11 i12 i13 i14 i15 i16) (Edg.src (nth Inhabited.default l i1))), Bts.b2 (Sp.bput (Bts.mk i10 i11 i12 i13 i14 i15 i16) (Edg.src (nth Inhabited.default l i1))), Bts.b3 (Sp.bput (Bts.mk i10 i11 i12 i13 i14 i15 i16) (Edg.src (nth Inhabited.default l i1))), Bts.b4 (Sp.bput (Bts.mk i10 i11 i12 i13 i14 i15 i16) (Edg.src (nth Inhabited.default l i1))), Bts.b5 (Sp.bput (Bts.mk i10 i11 i12 i13 i14 i15 i16) (Edg.src (nth Inhabited.default l i1))), Bts.b6 (Sp.bput (Bts.mk i10 i11 i12 i13 i14 i15 i16) (Edg.src (nth Inhabited.default l i1))))=((), i17, i18, i19, i20, i21, i22, i23)→inR .i64 (i1 + 1)∧(l=Aut.edges a∧i=(↑(List.length l) : Int)∧List.length l < 9223372036854775808∧0≤i1 + 1∧i1 + 1≤(↑(List.length l) : Int)∧(i2=k∧s=x∧l1=ks)∧Bts.mk i3 i4 i5 i6 i7 i8 i9=u)∧Int.toNat ((↑(List.length l) : Int) - (i1 + 1)) < Int.toNat ((↑(List.length l) : Int) - i1)∧(LOut.brk ((↑(List.length l) : Int), i2, s, l1, i3, i4, i5, i6, i7, i8, i9, Bts.b0 (Sp.bstep (fun x1 : Edg => Sp.rreads x1 (Tm.mk k x ks)) u (List.drop (Int.toNat (i1 + 1)) l) (Bts.mk i17 i18 i19 i20 i21 i22 i23)), Bts.b1 (Sp.bstep (fun x1 : Edg => Sp.rreads x1 (Tm.mk k x ks)) u (List.drop (Int.toNat (i1 + 1)) l) (Bts.mk i17 i18 i19 i20 i21 i22 i23)), Bts.b2 (Sp.bstep (fun x1 : Edg => Sp.rreads x1 (Tm.mk k x ks)) u (List.drop (Int.toNat (i1 + 1)) l) (Bts.mk i17 i18 i19 i20 i21 i22 i23)), Bts.b3 (Sp.bstep (fun x1 : Edg => Sp.rreads x1 (Tm.mk k x ks)) u (List.drop (Int.toNat (i1 + 1)) l) (Bts.mk i17 i18 i19 i20 i21 i22 i23)), Bts.b4 (Sp.bstep (fun x1 : Edg => Sp.rreads x1 (Tm.mk k x ks)) u (List.drop (Int.toNat (i1 + 1)) l) (Bts.mk i17 i18 i19 i20 i21 i22 i23)), Bts.b5 (Sp.bstep (fun x1 : Edg => Sp.rreads x1 (Tm.mk k x ks)) u (List.drop (Int.toNat (i1 + 1)) l) (Bts.mk i17 i18 i19 i20 i21 i22 i23)), Bts.b6 (Sp.bstep (fun x1 : Edg => Sp.rreads x1 (Tm.mk k x ks)) u (List.drop (Int.toNat (i1 + 1)) l) (Bts.mk i17 i18 i19 i20 i21 i22 i23))) : LOut _ Bool)=LOut.brk ((↑(List.length l) : Int), i2, s, l1, i3, i4, i5, i6, i7, i8, i9, Bts.b0 (Sp.bstep (fun x1 : Edg => Sp.rreads x1 (Tm.mk k x ks)) u (List.drop (Int.toNat i1) l) (Bts.mk i10 i11 i12 i13 i14 i15 i16)), Bts.b1 (Sp.bstep (fun x1 : Edg => Sp.rreads x1 (Tm.mk k x ks)) u (List.drop (Int.toNat i1) l) (Bts.mk i10 i11 i12 i13 i14 i15 i16)), Bts.b2 (Sp.bstep (fun x1 : Edg => Sp.rreads x1 (Tm.mk k x ks)) u (List.drop (Int.toNat i1) l) (Bts.mk i10 i11 i12 i13 i14 i15 i16)), Bts.b3 (Sp.bstep (fun x1 : Edg => Sp.rreads x1 (Tm.mk k x ks)) u (List.drop (Int.toNat i1) l) (Bts.mk i10 i11 i12 i13 i14 i15 i16)), Bts.b4 (Sp.bstep (fun x1 : Edg => Sp.rreads x1 (Tm.mk k x ks)) u (List.drop (Int.toNat i1) l) (Bts.mk i10 i11 i12 i13 i14 i15 i16)), Bts.b5 (Sp.bstep (fun x1 : Edg => Sp.rreads x1 (Tm.mk k x ks)) u (List.drop (Int.toNat i1) l) (Bts.mk i10 i11 i12 i13 i14 i15 i16)), Bts.b6 (Sp.bstep (fun x1 : Edg => Sp.rreads x1 (Tm.mk k x ks)) u (List.drop (Int.toNat i1) l) (Bts.mk i10 i11 i12 i13 i14 i15 i16)))) (inR .i64 (i1 + 1)∧(l=Aut.edges a∧i=(↑(List.length l) : Int)∧List.length l < 9223372036854775808∧0≤i1 + 1∧i1 + 1≤(↑(List.length l) : Int)∧(i2=k∧s=x∧l1=ks)∧Bts.mk i3 i4 i5 i6 i7 i8 i9=u)∧Int.toNat ((↑(List.length l) : Int) - (i1 + 1)) < Int.toNat ((↑(List.length l) : Int) - i1)∧(LOut.brk ((↑(List.length l) : Int), i2, s, l1, i3, i4, i5, i6, i7, i8, i9, Bts.b0 (Sp.bstep (fun x1 : Edg => Sp.rreads x1 (Tm.mk k x ks)) u (List.drop (Int.toNat (i1 + 1)) l) (Bts.mk i10 i11 i12 i13 i14 i15 i16)), Bts.b1 (Sp.bstep (fun x1 : Edg => Sp.rreads x1 (Tm.mk k x ks)) u (List.drop (Int.toNat (i1 + 1)) l) (Bts.mk i10 i11 i12 i13 i14 i15 i16)), Bts.b2 (Sp.bstep (fun x1 : Edg => Sp.rreads x1 (Tm.mk k x ks)) u (List.drop (Int.toNat (i1 + 1)) l) (Bts.mk i10 i11 i12 i13 i14 i15 i16)), Bts.b3 (Sp.bstep (fun x1 : Edg => Sp.rreads x1 (Tm.mk k x ks)) u (List.drop (Int.toNat (i1 + 1)) l) (Bts.mk i10 i11 i12 i13 i14 i15 i16)), Bts.b4 (Sp.bstep (fun x1 : Edg => Sp.rreads x1 (Tm.mk k x ks)) u (List.drop (Int.toNat (i1 + 1)) l) (Bts.mk i10 i11 i12 i13 i14 i15 i16)), Bts.b5 (Sp.bstep (fun x1 : Edg => Sp.rreads x1 (Tm.mk k x ks)) u (List.drop (Int.toNat (i1 + 1)) l) (Bts.mk i10 i11 i12 i13 i14 i15 i16)), Bts.b6 (Sp.bstep (fun x1 : Edg => Sp.rreads x1 (Tm.mk k x ks)) u (List.drop (Int.toNat (i1 + 1)) l) (Bts.mk i10 i11 i12 i13 i14 i15 i16))) : LOut _ Bool)=LOut.brk ((↑(List.length l) : Int), i2, s, l1, i3, i4, i5, i6, i7, i8, i9, Bts.b0 (Sp.bstep (fun x1 : Edg => Sp.rreads x1 (Tm.mk k x ks)) u (List.drop (Int.toNat i1) l) (Bts.mk i10 i11 i12 i13 i14 i15 i16)), Bts.b1 (Sp.bstep (fun x1 : Edg => Sp.rreads x1 (Tm.mk k x ks)) u (List.drop (Int.toNat i1) l) (Bts.mk i10 i11 i12 i13 i14 i15 i16)), Bts.b2 (Sp.bstep (fun x1 : Edg => Sp.rreads x1 (Tm.mk k x ks)) u (List.drop (Int.toNat i1) l) (Bts.mk i10 i11 i12 i13 i14 i15 i16)), Bts.b3 (Sp.bstep (fun x1 : Edg => Sp.rreads x1 (Tm.mk k x ks)) u (List.drop (Int.toNat i1) l) (Bts.mk i10 i11 i12 i13 i14 i15 i16)), Bts.b4 (Sp.bstep (fun x1 : Edg => Sp.rreads x1 (Tm.mk k x ks)) u (List.drop (Int.toNat i1) l) (Bts.mk i10 i11 i12 i13 i14 i15 i16)), Bts.b5 (Sp.bstep (fun x1 : Edg => Sp.rreads x1 (Tm.mk k x ks)) u (List.drop (Int.toNat i1) l) (Bts.mk i10 i11 i12 i13 i14 i15 i16)), Bts.b6 (Sp.bstep (fun x1 : Edg => Sp.rreads x1 (Tm.mk k x ks)) u (List.drop (Int.toNat i1) l) (Bts.mk i10 i11 i12 i13 i14 i15 i16)))))) ((LOut.brk ((↑(List.length l) : Int), i2, s, l1, i3, i4, i5, i6, i7, i8, i9, Bts.b0 (Sp.bstep (fun x1 : Edg => Sp.rreads x1 (Tm.mk k x ks)) u (List.drop (Int.toNat i1) l) (Bts.mk i10 i11 i12 i13 i14 i15 i16)), Bts.b1 (Sp.bstep (fun x1 : Edg => Sp.rreads x1 (Tm.mk k x ks)) u (List.drop (Int.toNat i1) l) (Bts.mk i10 i11 i12 i13 i14 i15 i16)), Bts.b2 (Sp.bstep (fun x1 : Edg => Sp.rreads x1 (Tm.mk k x ks)) u (List.drop (Int.toNat i1) l) (Bts.mk i10 i11 i12 i13 i14 i15 i16)), Bts.b3 (Sp.bstep (fun x1 : Edg => Sp.rreads x1 (Tm.mk k x ks)) u (List.drop (Int.toNat i1) l) (Bts.mk i10 i11 i12 i13 i14 i15 i16)), Bts.b4 (Sp.bstep (fun x1 : Edg => Sp.rreads x1 (Tm.mk k x ks)) u (List.drop (Int.toNat i1) l) (Bts.mk i10 i11 i12 i13 i14 i15 i16)), Bts.b5 (Sp.bstep (fun x1 : Edg => Sp.rreads x1 (Tm.mk k x ks)) u (List.drop (Int.toNat i1) l) (Bts.mk i10 i11 i12 i13 i14 i15 i16)), Bts.b6 (Sp.bstep (fun x1 : Edg => Sp.rreads x1 (Tm.mk k x ks)) u (List.drop (Int.toNat i1) l) (Bts.mk i10 i11 i12 i13 i14 i15 i16))) : LOut _ Bool)=LOut.brk (i1, i2, s, l1, i3, i4, i5, i6, i7, i8, i9, i10, i11, i12, i13, i14, i15, i16))
def regular_Automaton_into__2.t (a : Aut) (u : Bts) (k : Int) (x : ByteArray) (ks : (List Tm)) : Prop :=
 List.length (Aut.edges a) < 9223372036854775808→(Aut.edges a=Aut.edges a∧(↑(List.length (Aut.edges a)) : Int)=(↑(List.length (Aut.edges a)) : Int)∧List.length (Aut.edges a) < 9223372036854775808∧(0 : Int)≤0∧0≤(↑(List.length (Aut.edges a)) : Int)∧(k=k∧x=x∧ks=ks)∧u=u)∧regular_Automaton_into__2.l0 a k x ks u∧∀ i i1 : Int, ∀ s : ByteArray, ∀ l : List Tm, ∀ i2 i3 i4 i5 i6 i7 i8 i9 i10 i11 i12 i13 i14 i15 : Int, (LOut.brk ((↑(List.length (Aut.edges a)) : Int), k, x, ks, Bts.b0 u, Bts.b1 u, Bts.b2 u, Bts.b3 u, Bts.b4 u, Bts.b5 u, Bts.b6 u, Bts.b0 (Sp.bstep (fun x1 : Edg => Sp.rreads x1 (Tm.mk k x ks)) u (List.drop (Int.toNat 0) (Aut.edges a)) (Bts.mk 0 0 0 0 0 0 0)), Bts.b1 (Sp.bstep (fun x1 : Edg => Sp.rreads x1 (Tm.mk k x ks)) u (List.drop (Int.toNat 0) (Aut.edges a)) (Bts.mk 0 0 0 0 0 0 0)), Bts.b2 (Sp.bstep (fun x1 : Edg => Sp.rreads x1 (Tm.mk k x ks)) u (List.drop (Int.toNat 0) (Aut.edges a)) (Bts.mk 0 0 0 0 0 0 0)), Bts.b3 (Sp.bstep (fun x1 : Edg => Sp.rreads x1 (Tm.mk k x ks)) u (List.drop (Int.toNat 0) (Aut.edges a)) (Bts.mk 0 0 0 0 0 0 0)), Bts.b4 (Sp.bstep (fun x1 : Edg => Sp.rreads x1 (Tm.mk k x ks)) u (List.drop (Int.toNat 0) (Aut.edges a)) (Bts.mk 0 0 0 0 0 0 0)), Bts.b5 (Sp.bstep (fun x1 : Edg => Sp.rreads x1 (Tm.mk k x ks)) u (List.drop (Int.toNat 0) (Aut.edges a)) (Bts.mk 0 0 0 0 0 0 0)), Bts.b6 (Sp.bstep (fun x1 : Edg => Sp.rreads x1 (Tm.mk k x ks)) u (List.drop (Int.toNat 0) (Aut.edges a)) (Bts.mk 0 0 0 0 0 0 0))) : LOut _ Bool)=LOut.brk (i, i1, s, l, i2, i3, i4, i5, i6, i7, i8, i9, i10, i11, i12, i13, i14, i15)→(Sp.binto (Aut.edges a) u (fun x1 : Edg => Sp.rreads x1 (Tm.mk k x ks)), k, x, ks)=(Bts.mk i9 i10 i11 i12 i13 i14 i15, i1, s, l)
end Go.AL
namespace Go.AL
set_option linter.unusedVariables false
set_option linter.unusedSimpArgs false
set_option maxRecDepth 10000
attribute [local irreducible] wpF wpFX wpM wpFM
theorem regular_Automaton_into__2.l0_ok (a : Aut) (u : Bts) (k : Int) (x : ByteArray) (ks : List Tm) (ha : ∀ e ∈ a.edges, Sp.okE e) : regular_Automaton_into__2.l0 a k x ks u := by
 rintro l m i k1 x1 ks1 s0 s1 s2 s3 s4 s5 s6 o0 o1 o2 o3 o4 o5 o6 ⟨e1, e2, h3, h1, h2, ⟨f0, f1, f2⟩, hf7⟩
 subst l m k1 x1 ks1
 refine ifD (fun h => ?_) fun h => ?_
 ·have hi : i.toNat < a.edges.length := by omega
  have e1 : (i + 1).toNat = i.toNat + 1 := by omega
  obtain ⟨q1, q2, q3, q4⟩ := ha _ (nth_mem (d := default) hi)
  refine ⟨by omega, q2, ?_⟩
  rintro b hb
  rw [hf7] at hb
  have hk : Sp.bstep (fun e => Sp.rreads e ⟨k, x, ks⟩) u (List.drop i.toNat a.edges) ⟨o0, o1, o2, o3, o4, o5, o6⟩ = Sp.bstep (fun e => Sp.rreads e ⟨k, x, ks⟩) u (List.drop (i.toNat + 1) a.edges) (if (b && Sp.rreads (nth default a.edges i) ⟨k, x, ks⟩) = true then Sp.bput ⟨o0, o1, o2, o3, o4, o5, o6⟩ (nth default a.edges i).src else ⟨o0, o1, o2, o3, o4, o5, o6⟩) := by
   rw [nth_drop (d := default) hi, Sp.bstep, hb]
  refine ⟨fun hbt => ⟨q3, ?_⟩, fun hbf => ?_⟩
  ·rintro b1 c0 c1 c2 hq
   simp only [Prod.mk.injEq] at hq
   obtain ⟨g, g0, g1, g2⟩ := hq
   subst g0 g1 g2
   rw [Tm.eta] at g
   have g' : Sp.rreads (nth default a.edges i) ⟨k, x, ks⟩ = b1 := g
   rw [g'] at hk
   refine ifB_of (fun h4 => ⟨q1, ?_⟩) fun h4 => ⟨inR64 (by omega), ⟨rfl, rfl, h3, by omega, by omega, ⟨rfl, rfl, rfl⟩, hf7⟩, by omega, ?_⟩
   ·rintro p0 p1 p2 p3 p4 p5 p6 hp
    simp only [Prod.mk.injEq, true_and] at hp
    obtain ⟨r0, r1, r2, r3, r4, r5, r6⟩ := hp
    subst r0 r1 r2 r3 r4 r5 r6
    refine ⟨inR64 (by omega), ⟨rfl, rfl, h3, by omega, by omega, ⟨rfl, rfl, rfl⟩, hf7⟩, by omega, ?_⟩
    rw [hk, e1, if_pos h4]
   ·rw [hk, e1, if_neg (by rw [h4]; simp)]
  ·subst hbf
   refine ifB_of (fun h4 => by simp at h4) fun h4 => ⟨inR64 (by omega), ⟨rfl, rfl, h3, by omega, by omega, ⟨rfl, rfl, rfl⟩, hf7⟩, by omega, ?_⟩
   rw [hk, e1, if_neg (by simp)]
 ·rw [List.drop_eq_nil_of_le (by omega), show i = a.edges.length by omega]
  rfl
theorem regular_Automaton_into__2.main (a : Aut) (u : Bts) (k : Int) (x : ByteArray) (ks : List Tm) (ha : ∀ e ∈ a.edges, Sp.okE e) : regular_Automaton_into__2.t a u k x ks := by
 refine fun h => ⟨⟨rfl, rfl, h, by omega, by omega, ⟨rfl, rfl, rfl⟩, rfl⟩, regular_Automaton_into__2.l0_ok a u k x ks ha, ?_⟩
 rintro i c0 c1 c2 s0 s1 s2 s3 s4 s5 s6 o0 o1 o2 o3 o4 o5 o6 hq
 simp only [LOut.brk.injEq, Prod.mk.injEq, Int.toNat_zero, List.drop_zero] at hq
 obtain ⟨_, g0, g1, g2, _, _, _, _, _, _, _, r0, r1, r2, r3, r4, r5, r6⟩ := hq
 subst g0 g1 g2 r0 r1 r2 r3 r4 r5 r6
 rfl
theorem regular_Automaton_into__2.ok (W : World) : CtrOK Go.Proofs.Tryz.prog W 47 regular_Automaton_into__2.C := by
 refine memOK (d := regular_Automaton_into__2.d) (Γ := lookC [(21, regular_set_has.C), (49, regular_Automaton_accepting_2.C), (69, regular_set_put.C)]) (lookC_ok (fun p hp => by
  simp only [List.mem_cons, List.not_mem_nil, or_false] at hp
  rcases hp with rfl | rfl | rfl
  ·exact regular_set_has.ok W
  ·exact regular_Automaton_accepting_2.ok W
  ·exact regular_set_put.ok W)) (Λ := fun c_ s_ => match c_, s_ with | (a, u), (k, x, ks) => (regular_Automaton_into__2.Λ a u k x ks)) (Λr := fun c_ s_ => match c_, s_ with | (a, u), (k, x, ks) => (fun _ => none)) ?_
 intro c s hp
 obtain ⟨a, u⟩ := c
 obtain ⟨k, x, ks⟩ := s
 refine Eq.mpr ?_ (@regular_Automaton_into__2.main a u k x ks hp)
 kernel_rfl
end Go.AL
namespace Go.AL
set_option linter.unusedVariables false
end Go.AL
namespace Sp
open Go.AL
def bnext (a : Aut) (s : Bts) (t : Tm) : Bts := if t.kind = 4 then binto a.edges s (inn1 (baccL a t.kids)) else binto a.edges s (fun e => rreads e t)
def brun (a : Aut) (l : List (Int × Tm)) (s : Bts) : Bts := l.foldl (fun s p => bnext a s p.2) s
end Sp
namespace Go.AL
def isFnB (g : Nat) : VV → Bool
 | .fn f _ _ => f == g
 | _ => false
def altCtrB (g k : Nat) (c1 c2 : Ctr) : Ctr where
 pv vs := match (vs[k]?).any (isFnB g) with
  | true => c1.pv vs
  | false => c2.pv vs
 run vs st K := match (vs[k]?).any (isFnB g) with
  | true => c1.run vs st K
  | false => c2.run vs st K
theorem altCtrB_ok {P : Program} {W : World} {f g k : Nat} {c1 c2 : Ctr} (h1 : CtrOK P W f c1) (h2 : CtrOK P W f c2) : CtrOK P W f (altCtrB g k c1 c2) := by
 constructor
 ·intro vs pv h
  simp only [altCtrB] at h
  split at h
  ·exact h1.pv vs pv h
  ·exact h2.pv vs pv h
 ·intro vs st K h
  simp only [altCtrB] at h
  split at h
  ·exact h1.run vs st K h
  ·exact h2.run vs st K h
def regular_Automaton_into__alt.C : Ctr := altCtrB 48 2 regular_Automaton_into__1.C regular_Automaton_into__2.C
def slices_Backward__t.C : Ctr := TB.C
def regular_Automaton_accepting.L0 : LD := { cs := [], cts := [], pts := [(2, (.loc 0 0)), (5, (.loc 2 0))], vs := [], os := [(0, .plain, [none, none, none, none]), (2, .plain, [none, none, none, none, none, none, none])], vts := [.int .i64, .int .i64, .lst (.int .i64), .lst (.nm 6), .int .u64, .int .u64, .int .u64, .int .u64, .int .u64, .int .u64, .int .u64], own := [false, false, false, false, false, false, false, false, false, false, false], ro := [0, 1, 2, 4, 9, 10, 5, 11, 12], nx := 100 }
def regular_Automaton_accepting.Ρ (a : Aut) (v : (List Tm)) : Nat → Option (RLoop (ElT [.nm 8])) := fun id =>
 if id = 0 then some (mkRLoop regular_Automaton_accepting.L0 (.pair (.int .i64) (.nm 0))
  (fun (c_ : Unit) (xs : List (Int × Tm)) (s_ : Int × Int × (List Int) × (List Edg) × Int × Int × Int × Int × Int × Int × Int) => match c_, s_ with | (), (n, st, fin, ed, s0, s1, s2, s3, s4, s5, s6) => n = a.states ∧ st = a.start ∧ fin = a.final ∧ ed = a.edges ∧ ∀ p ∈ xs, p.2 ∈ v)
  (fun (c_ : Unit) (xs : List (Int × Tm)) (s_ : Int × Int × (List Int) × (List Edg) × Int × Int × Int × Int × Int × Int × Int) => match c_, s_ with | (), (n, st, fin, ed, s0, s1, s2, s3, s4, s5, s6) => .brk (n, st, fin, ed, (Sp.brun a xs ⟨s0, s1, s2, s3, s4, s5, s6⟩).b0, (Sp.brun a xs ⟨s0, s1, s2, s3, s4, s5, s6⟩).b1, (Sp.brun a xs ⟨s0, s1, s2, s3, s4, s5, s6⟩).b2, (Sp.brun a xs ⟨s0, s1, s2, s3, s4, s5, s6⟩).b3, (Sp.brun a xs ⟨s0, s1, s2, s3, s4, s5, s6⟩).b4, (Sp.brun a xs ⟨s0, s1, s2, s3, s4, s5, s6⟩).b5, (Sp.brun a xs ⟨s0, s1, s2, s3, s4, s5, s6⟩).b6)) [] false) else
 none
def regular_Automaton_accepting.C : Ctr := pureCtr [.nm 7, .lst (.nm 0)] [.nm 8] (some (fun (a_ : Aut × (List Tm)) => match a_ with | (a, v) => (∀ f ∈ a.final, 0 ≤ f ∧ f < 400) ∧ ∀ e ∈ a.edges, Sp.okE e)) (fun (a_ : Aut × (List Tm)) => match a_ with | (a, v) => (Sp.baccL a v))
def regular_Has.C : Ctr := pureCtr [.nm 7, .lst (.nm 0)] [.bool, .int .i64] (some (fun (a_ : Aut × (List Tm)) => match a_ with | (a, v) => Sp.okA a ∧ Sp.okL v)) (fun (a_ : Aut × (List Tm)) => match a_ with | (a, v) => ((if Sp.rcheck a = 0 then (if Sp.wrong v 4 = 0 then (Sp.bhas (Sp.baccL a v) a.start, 0) else (false, Sp.wrong v 4)) else (false, Sp.rcheck a))))
end Go.AL
namespace Go.AL
set_option linter.unusedVariables false
set_option maxRecDepth 10000
def regular_Automaton_accepting.l0 (a : Aut) (v : (List Tm)) : Prop :=
 ∀ x1 : Int × Tm, ∀ l : List (Int × Tm), ∀ i i1 : Int, ∀ l1 : List Int, ∀ l2 : List Edg, ∀ i2 i3 i4 i5 i6 i7 i8 : Int, (i=Aut.states a∧i1=Aut.start a∧l1=Aut.final a∧l2=Aut.edges a∧∀ x2 : Int × Tm, Membership.mem (x1 :: l) x2→Membership.mem v (Prod.snd x2))→ifB (decide (Tm.kind (Prod.snd x1)=4)) ((((∀ i9 : Int, Membership.mem l1 i9→0≤i9∧i9 < 400)∧∀ x2 : Edg, Membership.mem l2 x2→Sp.okE x2)∧Sp.nodesL (Tm.kids (Prod.snd x1)) < Sp.nodesL v)∧∀ x2 : Bts, Sp.baccL (Aut.mk i i1 l1 l2) (Tm.kids (Prod.snd x1))=x2→(∀ x3 : Edg, Membership.mem l2 x3→Sp.okE x3)∧∀ x3 : Bts, ∀ i9 i10 i11 i12 i13 i14 i15 : Int, (Sp.binto l2 (Bts.mk i2 i3 i4 i5 i6 i7 i8) (Sp.inn1 x2), Bts.b0 x2, Bts.b1 x2, Bts.b2 x2, Bts.b3 x2, Bts.b4 x2, Bts.b5 x2, Bts.b6 x2)=(x3, i9, i10, i11, i12, i13, i14, i15)→(i=Aut.states a∧i1=Aut.start a∧l1=Aut.final a∧l2=Aut.edges a∧∀ x4 : Int × Tm, Membership.mem l x4→Membership.mem v (Prod.snd x4))∧(LOut.brk (i, i1, l1, l2, Bts.b0 (Sp.brun a l x3), Bts.b1 (Sp.brun a l x3), Bts.b2 (Sp.brun a l x3), Bts.b3 (Sp.brun a l x3), Bts.b4 (Sp.brun a l x3), Bts.b5 (Sp.brun a l x3), Bts.b6 (Sp.brun a l x3)) : LOut _ Bts)=LOut.brk (i, i1, l1, l2, Bts.b0 (Sp.brun a (x1 :: l) (Bts.mk i2 i3 i4 i5 i6 i7 i8)), Bts.b1 (Sp.brun a (x1 :: l) (Bts.mk i2 i3 i4 i5 i6 i7 i8)), Bts.b2 (Sp.brun a (x1 :: l) (Bts.mk i2 i3 i4 i5 i6 i7 i8)), Bts.b3 (Sp.brun a (x1 :: l) (Bts.mk i2 i3 i4 i5 i6 i7 i8)), Bts.b4 (Sp.brun a (x1 :: l) (Bts.mk i2 i3 i4 i5 i6 i7 i8)), Bts.b5 (Sp.brun a (x1 :: l) (Bts.mk i2 i3 i4 i5 i6 i7 i8)), Bts.b6 (Sp.brun a (x1 :: l) (Bts.mk i2 i3 i4 i5 i6 i7 i8)))) ((∀ x2 : Edg, Membership.mem l2 x2→Sp.okE x2)∧∀ x2 : Bts, ∀ i9 : Int, ∀ s : ByteArray, ∀ l3 : List Tm, (Sp.binto l2 (Bts.mk i2 i3 i4 i5 i6 i7 i8) (fun x3 : Edg => Sp.rreads x3 (Tm.mk (Tm.kind (Prod.snd x1)) (Tm.text (Prod.snd x1)) (Tm.kids (Prod.snd x1)))), Tm.kind (Prod.snd x1), Tm.text (Prod.snd x1), Tm.kids (Prod.snd x1))=(x2, i9, s, l3)→(i=Aut.states a∧i1=Aut.start a∧l1=Aut.final a∧l2=Aut.edges a∧∀ x3 : Int × Tm, Membership.mem l x3→Membership.mem v (Prod.snd x3))∧(LOut.brk (i, i1, l1, l2, Bts.b0 (Sp.brun a l x2), Bts.b1 (Sp.brun a l x2), Bts.b2 (Sp.brun a l x2), Bts.b3 (Sp.brun a l x2), Bts.b4 (Sp.brun a l x2), Bts.b5 (Sp.brun a l x2), Bts.b6 (Sp.brun a l x2)) : LOut _ Bts)=LOut.brk (i, i1, l1, l2, Bts.b0 (Sp.brun a (x1 :: l) (Bts.mk i2 i3 i4 i5 i6 i7 i8)), Bts.b1 (Sp.brun a (x1 :: l) (Bts.mk i2 i3 i4 i5 i6 i7 i8)), Bts.b2 (Sp.brun a (x1 :: l) (Bts.mk i2 i3 i4 i5 i6 i7 i8)), Bts.b3 (Sp.brun a (x1 :: l) (Bts.mk i2 i3 i4 i5 i6 i7 i8)), Bts.b4 (Sp.brun a (x1 :: l) (Bts.mk i2 i3 i4 i5 i6 i7 i8)), Bts.b5 (Sp.brun a (x1 :: l) (Bts.mk i2 i3 i4 i5 i6 i7 i8)), Bts.b6 (Sp.brun a (x1 :: l) (Bts.mk i2 i3 i4 i5 i6 i7 i8))))
def regular_Automaton_accepting.t (a : Aut) (v : (List Tm)) : Prop :=
 (∀ i : Int, Membership.mem (Aut.final a) i→0≤i∧i < 400)∧∀ x : Bts, Sp.bfin (Aut.final a) (Bts.mk 0 0 0 0 0 0 0)=x→(Aut.states a=Aut.states a∧Aut.start a=Aut.start a∧Aut.final a=Aut.final a∧Aut.edges a=Aut.edges a∧∀ x1 : Int × Tm, Membership.mem (Sp.backw v) x1→Membership.mem v (Prod.snd x1))∧(∀ i i1 : Int, ∀ l : List Int, ∀ l1 : List Edg, ∀ i2 i3 i4 i5 i6 i7 i8 : Int, (i=Aut.states a∧i1=Aut.start a∧l=Aut.final a∧l1=Aut.edges a∧∀ x1 : Int × Tm, Membership.mem ([] : List (Int × Tm)) x1→Membership.mem v (Prod.snd x1))→(LOut.brk (i, i1, l, l1, Bts.b0 (Sp.brun a ([] : List (Int × Tm)) (Bts.mk i2 i3 i4 i5 i6 i7 i8)), Bts.b1 (Sp.brun a ([] : List (Int × Tm)) (Bts.mk i2 i3 i4 i5 i6 i7 i8)), Bts.b2 (Sp.brun a ([] : List (Int × Tm)) (Bts.mk i2 i3 i4 i5 i6 i7 i8)), Bts.b3 (Sp.brun a ([] : List (Int × Tm)) (Bts.mk i2 i3 i4 i5 i6 i7 i8)), Bts.b4 (Sp.brun a ([] : List (Int × Tm)) (Bts.mk i2 i3 i4 i5 i6 i7 i8)), Bts.b5 (Sp.brun a ([] : List (Int × Tm)) (Bts.mk i2 i3 i4 i5 i6 i7 i8)), Bts.b6 (Sp.brun a ([] : List (Int × Tm)) (Bts.mk i2 i3 i4 i5 i6 i7 i8))) : LOut _ Bts)=LOut.brk (i, i1, l, l1, i2, i3, i4, i5, i6, i7, i8))∧regular_Automaton_accepting.l0 a v∧∀ i i1 : Int, ∀ l : List Int, ∀ l1 : List Edg, ∀ i2 i3 i4 i5 i6 i7 i8 : Int, (LOut.brk (Aut.states a, Aut.start a, Aut.final a, Aut.edges a, Bts.b0 (Sp.brun a (Sp.backw v) x), Bts.b1 (Sp.brun a (Sp.backw v) x), Bts.b2 (Sp.brun a (Sp.backw v) x), Bts.b3 (Sp.brun a (Sp.backw v) x), Bts.b4 (Sp.brun a (Sp.backw v) x), Bts.b5 (Sp.brun a (Sp.backw v) x), Bts.b6 (Sp.brun a (Sp.backw v) x)) : LOut _ Bts)=LOut.brk (i, i1, l, l1, i2, i3, i4, i5, i6, i7, i8)→Sp.baccL a v=Bts.mk i2 i3 i4 i5 i6 i7 i8
def regular_Has.t (a : Aut) (v : (List Tm)) : Prop :=
 Sp.okA (Aut.mk (Aut.states a) (Aut.start a) (Aut.final a) (Aut.edges a))∧∀ i : Int, Sp.rcheck (Aut.mk (Aut.states a) (Aut.start a) (Aut.final a) (Aut.edges a))=i→ifB (!(decide (i=0))) (ite (Sp.rcheck a=0) (ite (Sp.wrong v 4=0) (Sp.bhas (Sp.baccL a v) (Aut.start a), 0) (false, Sp.wrong v 4)) (false, Sp.rcheck a)=(false, i)) (Sp.okL v∧∀ i1 : Int, Sp.wrong v 4=i1→ifB (!(decide (i1=0))) (ite (Sp.rcheck a=0) (ite (Sp.wrong v 4=0) (Sp.bhas (Sp.baccL a v) (Aut.start a), 0) (false, Sp.wrong v 4)) (false, Sp.rcheck a)=(false, i1)) (((∀ i2 : Int, Membership.mem (Aut.final a) i2→0≤i2∧i2 < 400)∧∀ x : Edg, Membership.mem (Aut.edges a) x→Sp.okE x)∧(0≤Aut.start a∧Aut.start a < 400)∧∀ b : Bool, Sp.bhas (Sp.baccL (Aut.mk (Aut.states a) (Aut.start a) (Aut.final a) (Aut.edges a)) v) (Aut.start a)=b→ite (Sp.rcheck a=0) (ite (Sp.wrong v 4=0) (Sp.bhas (Sp.baccL a v) (Aut.start a), 0) (false, Sp.wrong v 4)) (false, Sp.rcheck a)=(b, 0)))
end Go.AL
namespace Go.AL
set_option linter.unusedVariables false
set_option linter.unusedSimpArgs false
set_option maxRecDepth 10000
attribute [local irreducible] wpF wpFX wpM wpFM
theorem regular_Automaton_into__alt.ok (W : World) : CtrOK Go.Proofs.Tryz.prog W 47 regular_Automaton_into__alt.C := altCtrB_ok (regular_Automaton_into__1.ok W) (regular_Automaton_into__2.ok W)
theorem slices_Backward__t.ok (W : World) : CtrOK Go.Proofs.Tryz.prog W 46 slices_Backward__t.C := TB.ok (g := 84) (by kernel_rfl) (by kernel_rfl)
theorem Sp.baccL_cons (a : Aut) (t : Tm) (l : List Tm) : Sp.baccL a (t :: l) = Sp.bnext a (Sp.baccL a l) t := by
 cases t with
 | mk k x ks =>
   rw [Sp.baccL, Sp.baccT, Sp.bnext]
   rfl
theorem Sp.brun_back (a : Aut) (v : List Tm) : ∀ n : Nat, n ≤ v.length → Sp.brun a (Sp.backN v n) (Sp.baccL a (v.drop n)) = Sp.baccL a v
 | 0, _ => rfl
 | n + 1, h => by
   have e := nth_drop (d := default) (l := v) (i := (n : Int)) (by simp; omega)
   rw [← Sp.brun_back a v n (by omega)]
   rw [Int.toNat_natCast] at e
   rw [e, Sp.baccL_cons]
   rfl
theorem Sp.back_mem (v : List Tm) : ∀ n : Nat, n ≤ v.length → ∀ p ∈ Sp.backN v n, p.2 ∈ v
 | 0, _, p, hp => by cases hp
 | n + 1, h, p, hp => by
   rw [Sp.backN] at hp
   rcases List.mem_cons.1 hp with rfl | hp
   ·exact nth_mem (by simp; omega)
   ·exact Sp.back_mem v n (by omega) p hp
theorem regular_Automaton_accepting.l0_ok (a : Aut) (v : List Tm) (ha : (∀ f ∈ a.final, 0 ≤ f ∧ f < 400) ∧ ∀ e ∈ a.edges, Sp.okE e) : regular_Automaton_accepting.l0 a v := by
 rintro p l n st fin ed s0 s1 s2 s3 s4 s5 s6 ⟨e1, e2, e3, e4, hm⟩
 subst n st fin ed
 have hl : ∀ x ∈ l, x.2 ∈ v := fun x hx => hm x (by simp [hx])
 have hr : ∀ s, Sp.brun a (p :: l) s = Sp.brun a l (Sp.bnext a s p.2) := fun _ => rfl
 rw [hr, Sp.bnext]
 refine ifD (fun h => ⟨⟨ha, ?_⟩, ?_⟩) fun h => ⟨ha.2, ?_⟩
 ·have := Sp.nodesL_mem (hm p (by simp))
  omega
 ·rintro x hx
  refine ⟨ha.2, ?_⟩
  rintro y c0 c1 c2 c3 c4 c5 c6 hq
  simp only [Prod.mk.injEq] at hq
  rw [if_pos h]
  have hx' : Sp.baccL a p.2.kids = x := hx
  rw [hx']
  refine ⟨⟨rfl, rfl, rfl, rfl, hl⟩, ?_⟩
  rw [← hq.1]
 ·rintro y c0 c1 c2 hq
  simp only [Prod.mk.injEq] at hq
  rw [if_neg h]
  refine ⟨⟨rfl, rfl, rfl, rfl, hl⟩, ?_⟩
  rw [← hq.1, Tm.eta]
theorem regular_Automaton_accepting.main (a : Aut) (v : List Tm) (ha : (∀ f ∈ a.final, 0 ≤ f ∧ f < 400) ∧ ∀ e ∈ a.edges, Sp.okE e) : regular_Automaton_accepting.t a v := by
 refine ⟨ha.1, fun x hx => ⟨⟨rfl, rfl, rfl, rfl, Sp.back_mem v _ (Nat.le_refl _)⟩, ?_, regular_Automaton_accepting.l0_ok a v ha, ?_⟩⟩
 ·rintro n st fin ed s0 s1 s2 s3 s4 s5 s6 _
  rfl
 ·rintro n st fin ed s0 s1 s2 s3 s4 s5 s6 hq
  simp only [LOut.brk.injEq, Prod.mk.injEq] at hq
  obtain ⟨_, _, _, _, g0, g1, g2, g3, g4, g5, g6⟩ := hq
  subst g0 g1 g2 g3 g4 g5 g6
  have h1 := Sp.brun_back a v v.length (Nat.le_refl _)
  rw [List.drop_length, Sp.baccL] at h1
  have h2 : Sp.bfin a.final Sp.bz = x := hx
  rw [h2] at h1
  rw [← h1]
  rfl
theorem regular_Automaton_accepting.ok (W : World) : CtrOK Go.Proofs.Tryz.prog W 20 regular_Automaton_accepting.C := by
 refine funOK_rec (fun (a_ : Aut × (List Tm)) => match a_ with | (a, v) => Sp.nodesL v) (l := [(45, regular_Automaton_finals.C), (46, slices_Backward__t.C), (47, regular_Automaton_into__alt.C)]) (fun p hp => by
  simp only [List.mem_cons, List.not_mem_nil, or_false] at hp
  rcases hp with rfl | rfl | rfl
  ·exact regular_Automaton_finals.ok W
  ·exact slices_Backward__t.ok W
  ·exact regular_Automaton_into__alt.ok W) (Λ := fun a_ => match a_ with | (a, v) => (fun _ => none)) (Λr := fun a_ => match a_ with | (a, v) => (regular_Automaton_accepting.Ρ a v)) ?_
 intro a ha
 obtain ⟨a, v⟩ := a
 refine Eq.mpr ?_ (@regular_Automaton_accepting.main a v ha)
 kernel_rfl
theorem regular_Has.main (a : Aut) (v : List Tm) (ha : Sp.okA a ∧ Sp.okL v) : regular_Has.t a v := by
 refine ⟨ha.1, fun r hr => ?_⟩
 have hr' : Sp.rcheck a = r := hr
 refine ifN (fun h => ?_) fun h => ⟨ha.2, fun u hu => ifN (fun h1 => ?_) fun h1 => ?_⟩
 ·rw [if_neg (by rw [hr']; exact h), hr']
 ·rw [if_pos (by rw [hr', h]), if_neg (by rw [hu]; exact h1), hu]
 ·have hc : Sp.rcheck a = 0 := by rw [hr', h]
  obtain ⟨k1, k2, k3, k4, k5, k6, k7⟩ := Sp.rcheck_ok hc
  refine ⟨⟨fun f hf => by have := k4 f hf; omega, fun e he => ?_⟩, by omega, fun b hb => ?_⟩
  ·obtain ⟨q1, q2, q3, q4⟩ := Sp.rright_ok (k7 e he)
   exact ⟨by omega, by omega, q3, fun h5 => by have := q4 h5; omega⟩
  ·rw [if_pos hc, if_pos (by rw [hu, h1])]
   have hb' : Sp.bhas (Sp.baccL a v) a.start = b := hb
   rw [hb']
theorem regular_Has.ok (W : World) : CtrOK Go.Proofs.Tryz.prog W 8 regular_Has.C := by
 refine funOK (Γ := lookC [(11, regular_Check.C), (13, term_Value.C), (20, regular_Automaton_accepting.C), (21, regular_set_has.C)]) (lookC_ok (fun p hp => by
  simp only [List.mem_cons, List.not_mem_nil, or_false] at hp
  rcases hp with rfl | rfl | rfl | rfl
  ·exact regular_Check.ok W
  ·exact term_Value.ok W
  ·exact regular_Automaton_accepting.ok W
  ·exact regular_set_has.ok W)) (Λ := fun a_ => match a_ with | (a, v) => (fun _ => none)) (Λr := fun a_ => match a_ with | (a, v) => (fun _ => none)) ?_
 intro a ha
 obtain ⟨a, v⟩ := a
 refine Eq.mpr ?_ (@regular_Has.main a v ha)
 kernel_rfl
end Go.AL
namespace Go.AL
set_option linter.unusedVariables false
end Go.AL
namespace Sp
open Go.AL
def okW (x : Bts) : Prop := ∀ i : Int, 0 ≤ i → i < 7 → 0 ≤ bword x i ∧ bword x i < 18446744073709551616
end Sp
namespace Go.AL
end Go.AL
namespace Go.AL
set_option linter.unusedVariables false
set_option maxRecDepth 10000
end Go.AL
namespace Go.AL
set_option linter.unusedVariables false
set_option linter.unusedSimpArgs false
set_option maxRecDepth 10000
attribute [local irreducible] wpF wpFX wpM wpFM
theorem Sp.bword_set (x : Bts) (j v i : Int) (h0 : 0 ≤ i) (h7 : i < 7) : Sp.bword (Sp.bset x j v) i = if i = j then v else Sp.bword x i := by
 have h : i = 0 ∨ i = 1 ∨ i = 2 ∨ i = 3 ∨ i = 4 ∨ i = 5 ∨ i = 6 := by omega
 rcases h with rfl | rfl | rfl | rfl | rfl | rfl | rfl <;> simp [Sp.bset, Sp.bword, nth, eq_comm]
theorem Sp.okW_bz : Sp.okW Sp.bz := by
 intro i h0 h7
 have h : i = 0 ∨ i = 1 ∨ i = 2 ∨ i = 3 ∨ i = 4 ∨ i = 5 ∨ i = 6 := by omega
 rcases h with rfl | rfl | rfl | rfl | rfl | rfl | rfl <;> simp [Sp.bz, Sp.bword, nth]
theorem Sp.idx64 {n : Int} (h0 : 0 ≤ n) (h : n < 448) : (0 ≤ n.tdiv 64 ∧ n.tdiv 64 < 7) ∧ n.tdiv 64 = n / 64 ∧ min (n.tmod 64).toNat 64 = (n % 64).toNat ∧ (n % 64).toNat < 64 := by
 rw [Int.tdiv_eq_ediv_of_nonneg h0, Int.tmod_eq_emod_of_nonneg h0]
 refine ⟨⟨?_, ?_⟩, rfl, ?_, ?_⟩ <;> omega
theorem Sp.bhas_eq {x : Bts} (hx : Sp.okW x) {n : Int} (h0 : 0 ≤ n) (h : n < 448) : Sp.bhas x n = (Sp.bword x (n / 64)).toNat.testBit (n % 64).toNat := by
 obtain ⟨h1, h2, h3, h4⟩ := Sp.idx64 h0 h
 obtain ⟨w0, w1⟩ := hx _ h1.1 h1.2
 unfold Sp.bhas
 rw [h3]
 rw [h2] at w0 w1 ⊢
 obtain ⟨w, hw⟩ := Int.eq_ofNat_of_zero_le w0
 rw [hw] at w1 ⊢
 generalize (n % 64).toNat = k at h4 ⊢
 have e1 : (w : Int).fdiv (2 ^ k) = ((w / 2 ^ k : Nat) : Int) := by
  rw [Int.fdiv_eq_ediv_of_nonneg _ (Int.le_of_lt (Int.pow_pos (by omega)))]
  push_cast; rfl
 rw [e1]
 have hlt : w / 2 ^ k < 18446744073709551616 := Nat.lt_of_le_of_lt (Nat.div_le_self _ _) (by omega)
 have e2 := Go.u64_and_nat (w / 2 ^ k) 1 hlt (by omega)
 rw [show (1 : Int) = ((1 : Nat) : Int) from rfl, e2, Int.toNat_natCast, Nat.testBit_eq_decide_div_mod_eq, Nat.and_one_is_mod]
 simp only [Int.ofNat_inj]
theorem Sp.bor_eq {x : Bts} (hx : Sp.okW x) {n : Int} (h0 : 0 ≤ n) (h : n < 448) : Sp.bor x n = (((Sp.bword x (n / 64)).toNat ||| 2 ^ (n % 64).toNat : Nat) : Int) := by
 obtain ⟨h1, h2, h3, h4⟩ := Sp.idx64 h0 h
 obtain ⟨w0, w1⟩ := hx _ h1.1 h1.2
 unfold Sp.bor
 rw [h3]
 rw [h2] at w0 w1 ⊢
 obtain ⟨w, hw⟩ := Int.eq_ofNat_of_zero_le w0
 rw [hw] at w1 ⊢
 generalize (n % 64).toNat = k at h4 ⊢
 have hk : 2 ^ k < 18446744073709551616 := by
  have := Nat.pow_lt_pow_right (a := 2) (by omega) h4
  simpa using this
 have e1 : Go.IntKind.u64.wrap (1 * 2 ^ k) = ((2 ^ k : Nat) : Int) := by
  simp only [Go.IntKind.wrap, Go.IntKind.bits, Go.IntKind.signed, Bool.false_and, Bool.false_eq_true, if_false, Int.one_mul]
  have : ((2 : Int) ^ k) = ((2 ^ k : Nat) : Int) := by push_cast; rfl
  rw [this]
  refine Int.emod_eq_of_lt (Int.natCast_nonneg _) ?_
  have : ((2 ^ k : Nat) : Int) < ((18446744073709551616 : Nat) : Int) := Int.ofNat_lt.2 hk
  simpa using this
 rw [e1, Go.u64_or_nat w (2 ^ k) (by omega) hk, Int.toNat_natCast]
theorem Sp.okW_put {x : Bts} (hx : Sp.okW x) {n : Int} (h0 : 0 ≤ n) (h : n < 448) : Sp.okW (Sp.bput x n) := by
 intro i hi0 hi7
 rw [Sp.bput, Sp.bword_set _ _ _ _ hi0 hi7]
 split
 ·rw [Sp.bor_eq hx h0 h]
  obtain ⟨h1, h2, h3, h4⟩ := Sp.idx64 h0 h
  obtain ⟨w0, w1⟩ := hx _ h1.1 h1.2
  rw [h2] at w0 w1
  refine ⟨by omega, ?_⟩
  have hk : 2 ^ (n % 64).toNat < 2 ^ 64 := Nat.pow_lt_pow_right (by omega) h4
  have := Nat.or_lt_two_pow (x := (Sp.bword x (n / 64)).toNat) (y := 2 ^ (n % 64).toNat) (n := 64) (by omega) hk
  omega
 ·exact hx i hi0 hi7
theorem Sp.bhas_put {x : Bts} (hx : Sp.okW x) {n m : Int} (h0 : 0 ≤ n) (h : n < 448) (g0 : 0 ≤ m) (g : m < 448) : Sp.bhas (Sp.bput x n) m = (decide (m = n) || Sp.bhas x m) := by
 rw [Sp.bhas_eq (Sp.okW_put hx h0 h) g0 g, Sp.bhas_eq hx g0 g, Sp.bput]
 obtain ⟨h1, h2, h3, h4⟩ := Sp.idx64 h0 h
 obtain ⟨g1, g2, g3, g4⟩ := Sp.idx64 g0 g
 rw [h2, Sp.bword_set _ _ _ _ (by omega) (by omega)]
 split
 ·rename_i e
  rw [Sp.bor_eq hx h0 h, Int.toNat_natCast, Nat.testBit_or, Nat.testBit_two_pow, ← e, Bool.or_comm]
  congr 1
  by_cases hm : m = n
  ·subst hm; simp
  ·simp only [hm, decide_false, decide_eq_false_iff_not]
   intro h; apply hm; omega
 ·rename_i e
  have : ¬ m = n := fun h => e (by rw [h])
  simp [this]
theorem Sp.bhas_bz {m : Int} (g0 : 0 ≤ m) (g : m < 448) : Sp.bhas Sp.bz m = false := by
 rw [Sp.bhas_eq Sp.okW_bz g0 g]
 have : Sp.bword Sp.bz (m / 64) = 0 := by
  have h : m / 64 = 0 ∨ m / 64 = 1 ∨ m / 64 = 2 ∨ m / 64 = 3 ∨ m / 64 = 4 ∨ m / 64 = 5 ∨ m / 64 = 6 := by omega
  rcases h with h | h | h | h | h | h | h <;> rw [h] <;> simp [Sp.bz, Sp.bword, nth]
 rw [this]; simp
end Go.AL
namespace Go.AL
set_option linter.unusedVariables false
end Go.AL
namespace Sp
open Go.AL
def good (e : Edg) (s : Bts) : Bool := bhas s e.dst && (decide (e.kind ≠ 2) || decide ((e.exc.length : Int) < 256)) && (decide (e.kind ≠ 5) || bhas s e.inner)
def g1s (s : Bts) (e : Edg) : Bts := if good e s then bput s e.src else s
def g1 (l : List Edg) (s : Bts) : Bts := l.foldl g1s s
def g2s (al : Bts) (s : Bts) (e : Edg) : Bts := if bhas s e.src && good e al then (if e.kind = 5 then bput (bput s e.dst) e.inner else bput s e.dst) else s
def g2 (al : Bts) (l : List Edg) (s : Bts) : Bts := l.foldl (g2s al) s
def fixN (f : Bts → Bts) : Nat → Bts → Bts
 | 0, s => s
 | n + 1, s => if f s = s then s else fixN f n (f s)
def sameE (a b : Edg) : Bool := decide (a.src = b.src) && decide (a.dst = b.dst) && decide (a.kind = b.kind) && decide (a.inner = b.inner) && decide (cmpL [a.sym] [b.sym] = 0) && decide (cmpL a.exc b.exc = 0)
def rank (p : Int → Bool) : Nat → Int
 | 0 => 0
 | n + 1 => rank p n + (if p n then 1 else 0)
def toR (p : Int → Bool) (k : Nat) : Int := if p k then rank p k else 0
def zeros (n : Nat) : List Int := List.replicate n 0
def toL (p : Int → Bool) (N : Nat) : List Int := (List.range N).map (toR p)
def alive (a : Aut) : Bts := fixN (g1 a.edges) 449 (bfin a.final bz)
def reach (a : Aut) : Bts := fixN (g2 (alive a) a.edges) 449 (bput bz a.start)
def image (to : List Int) (e : Edg) : Edg := ⟨nth 0 to e.src, nth 0 to e.dst, e.kind, e.sym, e.exc, if e.kind = 5 then nth 0 to e.inner else 0⟩
def tre (al re : Bts) (to : List Int) (o : List Edg) (e : Edg) : List Edg := if good e al && bhas re e.src then (if o.any (sameE (image to e)) then o else o ++ [image to e]) else o
def pA (a : Aut) (n : Int) : Bool := bhas (reach a) n && bhas (alive a) n
def toA (a : Aut) : List Int := toL (pA a) a.states.toNat
def rtrim (a : Aut) : Aut :=
 if bhas (alive a) a.start then ⟨rank (pA a) a.states.toNat, nth 0 (toA a) a.start, (a.final.filter (bhas (reach a))).map (nth 0 (toA a)), a.edges.foldl (tre (alive a) (reach a) (toA a)) []⟩
 else ⟨1, 0, [], []⟩
def okN (a : Aut) : Prop := (1 ≤ a.states ∧ a.states ≤ 400) ∧ (0 ≤ a.start ∧ a.start < a.states) ∧ (∀ f ∈ a.final, 0 ≤ f ∧ f < a.states) ∧ a.final.length ≤ 4000000 ∧ a.edges.length ≤ 4000000 ∧ ∀ e ∈ a.edges, (0 ≤ e.src ∧ e.src < a.states) ∧ (0 ≤ e.dst ∧ e.dst < a.states) ∧ (1 ≤ e.kind ∧ e.kind ≤ 5) ∧ (e.kind = 5 → 0 ≤ e.inner ∧ e.inner < a.states) ∧ okL e.exc
end Sp
namespace Go.AL
def regular_Edge_good.C : Ctr := pureCtr [.nm 6, .nm 8] [.bool] (some (fun (a_ : Edg × Bts) => match a_ with | (e, x) => (0 ≤ e.dst ∧ e.dst < 400) ∧ (e.kind = 5 → 0 ≤ e.inner ∧ e.inner < 400))) (fun (a_ : Edg × Bts) => match a_ with | (e, x) => (Sp.good e x))
def regular_Automaton_trim_1.d : LD := ({ cs := [0], cts := [.nm 8], pts := [(1, .loc 0 0)], vs := [], os := [(0, .plain, [none, none, none, none])], vts := [.int .i64, .int .i64, .lst (.int .i64), .lst (.nm 6)], own := [false, false, false, false], ro := [0, 1], nx := 1 } : LD)
def regular_Automaton_trim_1.L0 : LD := { cs := [7, 8], cts := [.lst (.nm 6), .int .i64], pts := [(2, (.loc 5 0))], vs := [9], os := [(5, .plain, [none, none, none, none, none, none, none])], vts := [.int .i64, .int .u64, .int .u64, .int .u64, .int .u64, .int .u64, .int .u64, .int .u64], own := [false, false, false, false, false, false, false, false], ro := [0, 1, 2, 3, 6, 7, 8], nx := 100 }
def regular_Automaton_trim_1.Λ (s : Bts) (n : Int) (st : Int) (fin : (List Int)) (ed : (List Edg)) : Nat → Option (Loop (ElT [.bool])) := fun id =>
 if id = 0 then some (mkLoop regular_Automaton_trim_1.L0
  (fun (c_ : (List Edg) × Int) (s_ : Int × Int × Int × Int × Int × Int × Int × Int) => match c_, s_ with | (l, m), (i, s0, s1, s2, s3, s4, s5, s6) => l = ed ∧ m = l.length ∧ l.length < 9223372036854775808 ∧ 0 ≤ i ∧ i ≤ l.length)
  (fun (c_ : (List Edg) × Int) (s_ : Int × Int × Int × Int × Int × Int × Int × Int) => match c_, s_ with | (l, m), (i, s0, s1, s2, s3, s4, s5, s6) => (l.length - i : Int).toNat)
  (fun (c_ : (List Edg) × Int) (s_ : Int × Int × Int × Int × Int × Int × Int × Int) => match c_, s_ with | (l, m), (i, s0, s1, s2, s3, s4, s5, s6) => .brk ((l.length : Int), (Sp.g1 (l.drop i.toNat) ⟨s0, s1, s2, s3, s4, s5, s6⟩).b0, (Sp.g1 (l.drop i.toNat) ⟨s0, s1, s2, s3, s4, s5, s6⟩).b1, (Sp.g1 (l.drop i.toNat) ⟨s0, s1, s2, s3, s4, s5, s6⟩).b2, (Sp.g1 (l.drop i.toNat) ⟨s0, s1, s2, s3, s4, s5, s6⟩).b3, (Sp.g1 (l.drop i.toNat) ⟨s0, s1, s2, s3, s4, s5, s6⟩).b4, (Sp.g1 (l.drop i.toNat) ⟨s0, s1, s2, s3, s4, s5, s6⟩).b5, (Sp.g1 (l.drop i.toNat) ⟨s0, s1, s2, s3, s4, s5, s6⟩).b6)) [] false) else
 none
def regular_Automaton_trim_1.C : Ctr := memCtr regular_Automaton_trim_1.d [.nm 8] (some (fun (c_ : ElT [.nm 8]) (s_ : ElT [.int .i64, .int .i64, .lst (.int .i64), .lst (.nm 6)]) => match c_, s_ with | s, (n, st, fin, ed) => ∀ e ∈ ed, Sp.okE e)) (fun (c_ : ElT [.nm 8]) (s_ : ElT [.int .i64, .int .i64, .lst (.int .i64), .lst (.nm 6)]) => match c_, s_ with | s, (n, st, fin, ed) => ((Sp.g1 ed s, (n, st, fin, ed))))
def regular_Automaton_trim_2.d : LD := ({ cs := [0], cts := [.nm 8], pts := [(1, .loc 0 0), (2, .loc 1 0)], vs := [], os := [(0, .plain, [none, none, none, none]), (1, .plain, [none, none, none, none, none, none, none])], vts := [.int .i64, .int .i64, .lst (.int .i64), .lst (.nm 6), .int .u64, .int .u64, .int .u64, .int .u64, .int .u64, .int .u64, .int .u64], own := [false, false, false, false, false, false, false, false, false, false, false], ro := [0, 1, 2], nx := 2 } : LD)
def regular_Automaton_trim_2.L0 : LD := { cs := [8, 9], cts := [.lst (.nm 6), .int .i64], pts := [(2, (.loc 1 0)), (3, (.loc 13 0))], vs := [10], os := [(1, .plain, [none, none, none, none, none, none, none]), (13, .plain, [none, none, none, none, none, none, none])], vts := [.int .i64, .int .u64, .int .u64, .int .u64, .int .u64, .int .u64, .int .u64, .int .u64, .int .u64, .int .u64, .int .u64, .int .u64, .int .u64, .int .u64, .int .u64], own := [false, false, false, false, false, false, false, false, false, false, false, false, false, false, false], ro := [0, 1, 2, 3, 4, 7, 8, 9], nx := 100 }
def regular_Automaton_trim_2.Λ (s : Bts) (n : Int) (st : Int) (fin : (List Int)) (ed : (List Edg)) (w0 : Int) (w1 : Int) (w2 : Int) (w3 : Int) (w4 : Int) (w5 : Int) (w6 : Int) : Nat → Option (Loop (ElT [.bool])) := fun id =>
 if id = 0 then some (mkLoop regular_Automaton_trim_2.L0
  (fun (c_ : (List Edg) × Int) (s_ : Int × Int × Int × Int × Int × Int × Int × Int × Int × Int × Int × Int × Int × Int × Int) => match c_, s_ with | (l, m), (i, v0, v1, v2, v3, v4, v5, v6, s0, s1, s2, s3, s4, s5, s6) => l = ed ∧ m = l.length ∧ l.length < 9223372036854775808 ∧ 0 ≤ i ∧ i ≤ l.length ∧ v0 = w0 ∧ v1 = w1 ∧ v2 = w2 ∧ v3 = w3 ∧ v4 = w4 ∧ v5 = w5 ∧ v6 = w6)
  (fun (c_ : (List Edg) × Int) (s_ : Int × Int × Int × Int × Int × Int × Int × Int × Int × Int × Int × Int × Int × Int × Int) => match c_, s_ with | (l, m), (i, v0, v1, v2, v3, v4, v5, v6, s0, s1, s2, s3, s4, s5, s6) => (l.length - i : Int).toNat)
  (fun (c_ : (List Edg) × Int) (s_ : Int × Int × Int × Int × Int × Int × Int × Int × Int × Int × Int × Int × Int × Int × Int) => match c_, s_ with | (l, m), (i, v0, v1, v2, v3, v4, v5, v6, s0, s1, s2, s3, s4, s5, s6) => .brk ((l.length : Int), v0, v1, v2, v3, v4, v5, v6, (Sp.g2 ⟨w0, w1, w2, w3, w4, w5, w6⟩ (l.drop i.toNat) ⟨s0, s1, s2, s3, s4, s5, s6⟩).b0, (Sp.g2 ⟨w0, w1, w2, w3, w4, w5, w6⟩ (l.drop i.toNat) ⟨s0, s1, s2, s3, s4, s5, s6⟩).b1, (Sp.g2 ⟨w0, w1, w2, w3, w4, w5, w6⟩ (l.drop i.toNat) ⟨s0, s1, s2, s3, s4, s5, s6⟩).b2, (Sp.g2 ⟨w0, w1, w2, w3, w4, w5, w6⟩ (l.drop i.toNat) ⟨s0, s1, s2, s3, s4, s5, s6⟩).b3, (Sp.g2 ⟨w0, w1, w2, w3, w4, w5, w6⟩ (l.drop i.toNat) ⟨s0, s1, s2, s3, s4, s5, s6⟩).b4, (Sp.g2 ⟨w0, w1, w2, w3, w4, w5, w6⟩ (l.drop i.toNat) ⟨s0, s1, s2, s3, s4, s5, s6⟩).b5, (Sp.g2 ⟨w0, w1, w2, w3, w4, w5, w6⟩ (l.drop i.toNat) ⟨s0, s1, s2, s3, s4, s5, s6⟩).b6)) [] false) else
 none
def regular_Automaton_trim_2.C : Ctr := memCtr regular_Automaton_trim_2.d [.nm 8] (some (fun (c_ : ElT [.nm 8]) (s_ : ElT [.int .i64, .int .i64, .lst (.int .i64), .lst (.nm 6), .int .u64, .int .u64, .int .u64, .int .u64, .int .u64, .int .u64, .int .u64]) => match c_, s_ with | s, (n, st, fin, ed, w0, w1, w2, w3, w4, w5, w6) => ∀ e ∈ ed, Sp.okE e)) (fun (c_ : ElT [.nm 8]) (s_ : ElT [.int .i64, .int .i64, .lst (.int .i64), .lst (.nm 6), .int .u64, .int .u64, .int .u64, .int .u64, .int .u64, .int .u64, .int .u64]) => match c_, s_ with | s, (n, st, fin, ed, w0, w1, w2, w3, w4, w5, w6) => ((Sp.g2 ⟨w0, w1, w2, w3, w4, w5, w6⟩ ed s, (n, st, fin, ed, w0, w1, w2, w3, w4, w5, w6))))
def term_Equal.C : Ctr := pureCtr [.lst (.nm 0), .lst (.nm 0)] [.bool] none (fun (a_ : (List Tm) × (List Tm)) => match a_ with | (a, b) => (decide (Sp.cmpL a b = 0)))
def regular_same.C : Ctr := pureCtr [.nm 6, .nm 6] [.bool] none (fun (a_ : Edg × Edg) => match a_ with | (a, b) => (Sp.sameE a b))
end Go.AL
namespace Go.AL
set_option linter.unusedVariables false
set_option maxRecDepth 10000
def regular_Edge_good.t (e : Edg) (x : Bts) : Prop :=
 (0≤Edg.dst e∧Edg.dst e < 400)∧∀ b : Bool, Sp.bhas x (Edg.dst e)=b→((!(decide (Edg.kind e=5)))=false∧(b && ((!(decide (Edg.kind e=2))) || decide ((↑(List.length (Edg.exc e)) : Int) < 256)))=true→0≤Edg.inner e∧Edg.inner e < 400)∧Sp.good e x=(b && ((!(decide (Edg.kind e=2))) || decide ((↑(List.length (Edg.exc e)) : Int) < 256)) && ((!(decide (Edg.kind e=5))) || Sp.bhas x (Edg.inner e)))
def regular_Automaton_trim_1.l0 (ed : (List Edg)) : Prop :=
 ∀ l : List Edg, ∀ i i1 i2 i3 i4 i5 i6 i7 i8 : Int, l=ed∧i=(↑(List.length l) : Int)∧List.length l < 9223372036854775808∧0≤i1∧i1≤(↑(List.length l) : Int)→ifB (decide (i1 < i)) ((0≤i1∧i1 < (↑(List.length l) : Int))∧((0≤Edg.dst (nth Inhabited.default l i1)∧Edg.dst (nth Inhabited.default l i1) < 400)∧(Edg.kind (nth Inhabited.default l i1)=5→0≤Edg.inner (nth Inhabited.default l i1)∧Edg.inner (nth Inhabited.default l i1) < 400))∧∀ b : Bool, Sp.good (Edg.mk (Edg.src (nth Inhabited.default l i1)) (Edg.dst (nth Inhabited.default l i1)) (Edg.kind (nth Inhabited.default l i1)) (Tm.mk (Tm.kind (Edg.sym (nth Inhabited.default l i1))) (Tm.text (Edg.sym (nth Inhabited.default l i1))) (Tm.kids (Edg.sym (nth Inhabited.default l i1)))) (Edg.exc (nth Inhabited.default l i1)) (Edg.inner (nth Inhabited.default l i1))) (Bts.mk i2 i3 i4 i5 i6 i7 i8)=b→ifB b ((0≤Edg.src (nth Inhabited.default l i1)∧Edg.src (nth Inhabited.default l i1) < 400)∧∀ i9 i10 i11 i12 i13 i14 i15 : Int, ((), Bts.b0 (Sp.bput (Bts.mk i2 i3 i4 i5 i6 i7 i8) (Edg.src (nth Inhabited.default l i1))), Bts.b1 (Sp.bput (Bts.mk i2 i3 i4 i5 i6 i7 i8) (Edg.src (nth Inhabited.default l i1))), Bts.b2 (Sp.bput (Bts.mk i2 i3 i4 i5 i6 i7 i8) (Edg.src (nth Inhabited.default l i1))), Bts.b3 (Sp.bput (Bts.mk i2 i3 i4 i5 i6 i7 i8) (Edg.src (nth Inhabited.default l i1))), Bts.b4 (Sp.bput (Bts.mk i2 i3 i4 i5 i6 i7 i8) (Edg.src (nth Inhabited.default l i1))), Bts.b5 (Sp.bput (Bts.mk i2 i3 i4 i5 i6 i7 i8) (Edg.src (nth Inhabited.default l i1))), Bts.b6 (Sp.bput (Bts.mk i2 i3 i4 i5 i6 i7 i8) (Edg.src (nth Inhabited.default l i1))))=((), i9, i10, i11, i12, i13, i14, i15)→inR .i64 (i1 + 1)∧(l=ed∧i=(↑(List.length l) : Int)∧List.length l < 9223372036854775808∧0≤i1 + 1∧i1 + 1≤(↑(List.length l) : Int))∧Int.toNat ((↑(List.length l) : Int) - (i1 + 1)) < Int.toNat ((↑(List.length l) : Int) - i1)∧(LOut.brk ((↑(List.length l) : Int), Bts.b0 (Sp.g1 (List.drop (Int.toNat (i1 + 1)) l) (Bts.mk i9 i10 i11 i12 i13 i14 i15)), Bts.b1 (Sp.g1 (List.drop (Int.toNat (i1 + 1)) l) (Bts.mk i9 i10 i11 i12 i13 i14 i15)), Bts.b2 (Sp.g1 (List.drop (Int.toNat (i1 + 1)) l) (Bts.mk i9 i10 i11 i12 i13 i14 i15)), Bts.b3 (Sp.g1 (List.drop (Int.toNat (i1 + 1)) l) (Bts.mk i9 i10 i11 i12 i13 i14 i15)), Bts.b4 (Sp.g1 (List.drop (Int.toNat (i1 + 1)) l) (Bts.mk i9 i10 i11 i12 i13 i14 i15)), Bts.b5 (Sp.g1 (List.drop (Int.toNat (i1 + 1)) l) (Bts.mk i9 i10 i11 i12 i13 i14 i15)), Bts.b6 (Sp.g1 (List.drop (Int.toNat (i1 + 1)) l) (Bts.mk i9 i10 i11 i12 i13 i14 i15))) : LOut _ Bool)=LOut.brk ((↑(List.length l) : Int), Bts.b0 (Sp.g1 (List.drop (Int.toNat i1) l) (Bts.mk i2 i3 i4 i5 i6 i7 i8)), Bts.b1 (Sp.g1 (List.drop (Int.toNat i1) l) (Bts.mk i2 i3 i4 i5 i6 i7 i8)), Bts.b2 (Sp.g1 (List.drop (Int.toNat i1) l) (Bts.mk i2 i3 i4 i5 i6 i7 i8)), Bts.b3 (Sp.g1 (List.drop (Int.toNat i1) l) (Bts.mk i2 i3 i4 i5 i6 i7 i8)), Bts.b4 (Sp.g1 (List.drop (Int.toNat i1) l) (Bts.mk i2 i3 i4 i5 i6 i7 i8)), Bts.b5 (Sp.g1 (List.drop (Int.toNat i1) l) (Bts.mk i2 i3 i4 i5 i6 i7 i8)), Bts.b6 (Sp.g1 (List.drop (Int.toNat i1) l) (Bts.mk i2 i3 i4 i5 i6 i7 i8)))) (inR .i64 (i1 + 1)∧(l=ed∧i=(↑(List.length l) : Int)∧List.length l < 9223372036854775808∧0≤i1 + 1∧i1 + 1≤(↑(List.length l) : Int))∧Int.toNat ((↑(List.length l) : Int) - (i1 + 1)) < Int.toNat ((↑(List.length l) : Int) - i1)∧(LOut.brk ((↑(List.length l) : Int), Bts.b0 (Sp.g1 (List.drop (Int.toNat (i1 + 1)) l) (Bts.mk i2 i3 i4 i5 i6 i7 i8)), Bts.b1 (Sp.g1 (List.drop (Int.toNat (i1 + 1)) l) (Bts.mk i2 i3 i4 i5 i6 i7 i8)), Bts.b2 (Sp.g1 (List.drop (Int.toNat (i1 + 1)) l) (Bts.mk i2 i3 i4 i5 i6 i7 i8)), Bts.b3 (Sp.g1 (List.drop (Int.toNat (i1 + 1)) l) (Bts.mk i2 i3 i4 i5 i6 i7 i8)), Bts.b4 (Sp.g1 (List.drop (Int.toNat (i1 + 1)) l) (Bts.mk i2 i3 i4 i5 i6 i7 i8)), Bts.b5 (Sp.g1 (List.drop (Int.toNat (i1 + 1)) l) (Bts.mk i2 i3 i4 i5 i6 i7 i8)), Bts.b6 (Sp.g1 (List.drop (Int.toNat (i1 + 1)) l) (Bts.mk i2 i3 i4 i5 i6 i7 i8))) : LOut _ Bool)=LOut.brk ((↑(List.length l) : Int), Bts.b0 (Sp.g1 (List.drop (Int.toNat i1) l) (Bts.mk i2 i3 i4 i5 i6 i7 i8)), Bts.b1 (Sp.g1 (List.drop (Int.toNat i1) l) (Bts.mk i2 i3 i4 i5 i6 i7 i8)), Bts.b2 (Sp.g1 (List.drop (Int.toNat i1) l) (Bts.mk i2 i3 i4 i5 i6 i7 i8)), Bts.b3 (Sp.g1 (List.drop (Int.toNat i1) l) (Bts.mk i2 i3 i4 i5 i6 i7 i8)), Bts.b4 (Sp.g1 (List.drop (Int.toNat i1) l) (Bts.mk i2 i3 i4 i5 i6 i7 i8)), Bts.b5 (Sp.g1 (List.drop (Int.toNat i1) l) (Bts.mk i2 i3 i4 i5 i6 i7 i8)), Bts.b6 (Sp.g1 (List.drop (Int.toNat i1) l) (Bts.mk i2 i3 i4 i5 i6 i7 i8))))) ((LOut.brk ((↑(List.length l) : Int), Bts.b0 (Sp.g1 (List.drop (Int.toNat i1) l) (Bts.mk i2 i3 i4 i5 i6 i7 i8)), Bts.b1 (Sp.g1 (List.drop (Int.toNat i1) l) (Bts.mk i2 i3 i4 i5 i6 i7 i8)), Bts.b2 (Sp.g1 (List.drop (Int.toNat i1) l) (Bts.mk i2 i3 i4 i5 i6 i7 i8)), Bts.b3 (Sp.g1 (List.drop (Int.toNat i1) l) (Bts.mk i2 i3 i4 i5 i6 i7 i8)), Bts.b4 (Sp.g1 (List.drop (Int.toNat i1) l) (Bts.mk i2 i3 i4 i5 i6 i7 i8)), Bts.b5 (Sp.g1 (List.drop (Int.toNat i1) l) (Bts.mk i2 i3 i4 i5 i6 i7 i8)), Bts.b6 (Sp.g1 (List.drop (Int.toNat i1) l) (Bts.mk i2 i3 i4 i5 i6 i7 i8))) : LOut _ Bool)=LOut.brk (i1, i2, i3, i4, i5, i6, i7, i8))
def regular_Automaton_trim_1.t (s : Bts) (n : Int) (st : Int) (fin : (List Int)) (ed : (List Edg)) : Prop :=
 List.length ed < 9223372036854775808→(ed=ed∧(↑(List.length ed) : Int)=(↑(List.length ed) : Int)∧List.length ed < 9223372036854775808∧(0 : Int)≤0∧0≤(↑(List.length ed) : Int))∧regular_Automaton_trim_1.l0 ed∧∀ i i1 i2 i3 i4 i5 i6 i7 : Int, (LOut.brk ((↑(List.length ed) : Int), Bts.b0 (Sp.g1 (List.drop (Int.toNat 0) ed) s), Bts.b1 (Sp.g1 (List.drop (Int.toNat 0) ed) s), Bts.b2 (Sp.g1 (List.drop (Int.toNat 0) ed) s), Bts.b3 (Sp.g1 (List.drop (Int.toNat 0) ed) s), Bts.b4 (Sp.g1 (List.drop (Int.toNat 0) ed) s), Bts.b5 (Sp.g1 (List.drop (Int.toNat 0) ed) s), Bts.b6 (Sp.g1 (List.drop (Int.toNat 0) ed) s)) : LOut _ Bool)=LOut.brk (i, i1, i2, i3, i4, i5, i6, i7)→(Sp.g1 ed s, n, st, fin, ed)=(Bts.mk i1 i2 i3 i4 i5 i6 i7, n, st, fin, ed)
def regular_Automaton_trim_2.l0 (ed : (List Edg)) (w0 : Int) (w1 : Int) (w2 : Int) (w3 : Int) (w4 : Int) (w5 : Int) (w6 : Int) : Prop :=
 ∀ l : List Edg, ∀ i i1 i2 i3 i4 i5 i6 i7 i8 i9 i10 i11 i12 i13 i14 i15 : Int, l=ed∧i=(↑(List.length l) : Int)∧List.length l < 9223372036854775808∧0≤i1∧i1≤(↑(List.length l) : Int)∧i2=w0∧i3=w1∧i4=w2∧i5=w3∧i6=w4∧i7=w5∧i8=w6→ifB (decide (i1 < i)) ((0≤i1∧i1 < (↑(List.length l) : Int))∧(0≤Edg.src (nth Inhabited.default l i1)∧Edg.src (nth Inhabited.default l i1) < 400)∧∀ b : Bool, Sp.bhas (Bts.mk i9 i10 i11 i12 i13 i14 i15) (Edg.src (nth Inhabited.default l i1))=b→(b=true→(0≤Edg.dst (nth Inhabited.default l i1)∧Edg.dst (nth Inhabited.default l i1) < 400)∧(Edg.kind (nth Inhabited.default l i1)=5→0≤Edg.inner (nth Inhabited.default l i1)∧Edg.inner (nth Inhabited.default l i1) < 400))∧ifB (b && Sp.good (Edg.mk (Edg.src (nth Inhabited.default l i1)) (Edg.dst (nth Inhabited.default l i1)) (Edg.kind (nth Inhabited.default l i1)) (Tm.mk (Tm.kind (Edg.sym (nth Inhabited.default l i1))) (Tm.text (Edg.sym (nth Inhabited.default l i1))) (Tm.kids (Edg.sym (nth Inhabited.default l i1)))) (Edg.exc (nth Inhabited.default l i1)) (Edg.inner (nth Inhabited.default l i1))) (Bts.mk i2 i3 i4 i5 i6 i7 i8)) ((0≤Edg.dst (nth Inhabited.default l i1)∧Edg.dst (nth Inhabited.default l i1) < 400)∧∀ i16 i17 i18 i19 i20 i21 i22 : Int, ((), Bts.b0 (Sp.bput (Bts.mk i9 i10 i11 i12 i13 i14 i15) (Edg.dst (nth Inhabited.default l i1))), Bts.b1 (Sp.bput (Bts.mk i9 i10 i11 i12 i13 i14 i15) (Edg.dst (nth Inhabited.default l i1))), Bts.b2 (Sp.bput (Bts.mk i9 i10 i11 i12 i13 i14 i15) (Edg.dst (nth Inhabited.default l i1))), Bts.b3 (Sp.bput (Bts.mk i9 i10 i11 i12 i13 i14 i15) (Edg.dst (nth Inhabited.default l i1))), Bts.b4 (Sp.bput (Bts.mk i9 i10 i11 i12 i13 i14 i15) (Edg.dst (nth Inhabited.default l i1))), Bts.b5 (Sp.bput (Bts.mk i9 i10 i11 i12 i13 i14 i15) (Edg.dst (nth Inhabited.default l i1))), Bts.b6 (Sp.bput (Bts.mk i9 i10 i11 i12 i13 i14 i15) (Edg.dst (nth Inhabited.default l i1))))=((), i16, i17, i18, i19, i20, i21, i22)→ifB (decide (Edg.kind (nth Inhabited.default l i1)=5)) ((0≤Edg.inner (nth Inhabited.default l i1)∧Edg.inner (nth Inhabited.default l i1) < 400)∧∀ i23 i24 i25 i26 i27 i28 i29 : Int, ((), Bts.b0 (Sp.bput (Bts.mk i16 i17 i18 i19 i20 i21 i22) (Edg.inner (nth Inhabited.default l i1))), Bts.b1 (Sp.bput (Bts.mk i16 i17 i18 i19 i20 i21 i22) (Edg.inner (nth Inhabited.default l i1))), Bts.b2 (Sp.bput (Bts.mk i16 i17 i18 i19 i20 i21 i22) (Edg.inner (nth Inhabited.default l i1))), Bts.b3 (Sp.bput (Bts.mk i16 i17 i18 i19 i20 i21 i22) (Edg.inner (nth Inhabited.default l i1))), Bts.b4 (Sp.bput (Bts.mk i16 i17 i18 i19 i20 i21 i22) (Edg.inner (nth Inhabited.default l i1))), Bts.b5 (Sp.bput (Bts.mk i16 i17 i18 i19 i20 i21 i22) (Edg.inner (nth Inhabited.default l i1))), Bts.b6 (Sp.bput (Bts.mk i16 i17 i18 i19 i20 i21 i22) (Edg.inner (nth Inhabited.default l i1))))=((), i23, i24, i25, i26, i27, i28, i29)→inR .i64 (i1 + 1)∧(l=ed∧i=(↑(List.length l) : Int)∧List.length l < 9223372036854775808∧0≤i1 + 1∧i1 + 1≤(↑(List.length l) : Int)∧i2=w0∧i3=w1∧i4=w2∧i5=w3∧i6=w4∧i7=w5∧i8=w6)∧Int.toNat ((↑(List.length l) : Int) - (i1 + 1)) < Int.toNat ((↑(List.length l) : Int) - i1)∧(LOut.brk ((↑(List.length l) : Int), i2, i3, i4, i5, i6, i7, i8, Bts.b0 (Sp.g2 (Bts.mk w0 w1 w2 w3 w4 w5 w6) (List.drop (Int.toNat (i1 + 1)) l) (Bts.mk i23 i24 i25 i26 i27 i28 i29)), Bts.b1 (Sp.g2 (Bts.mk w0 w1 w2 w3 w4 w5 w6) (List.drop (Int.toNat (i1 + 1)) l) (Bts.mk i23 i24 i25 i26 i27 i28 i29)), Bts.b2 (Sp.g2 (Bts.mk w0 w1 w2 w3 w4 w5 w6) (List.drop (Int.toNat (i1 + 1)) l) (Bts.mk i23 i24 i25 i26 i27 i28 i29)), Bts.b3 (Sp.g2 (Bts.mk w0 w1 w2 w3 w4 w5 w6) (List.drop (Int.toNat (i1 + 1)) l) (Bts.mk i23 i24 i25 i26 i27 i28 i29)), Bts.b4 (Sp.g2 (Bts.mk w0 w1 w2 w3 w4 w5 w6) (List.drop (Int.toNat (i1 + 1)) l) (Bts.mk i23 i24 i25 i26 i27 i28 i29)), Bts.b5 (Sp.g2 (Bts.mk w0 w1 w2 w3 w4 w5 w6) (List.drop (Int.toNat (i1 + 1)) l) (Bts.mk i23 i24 i25 i26 i27 i28 i29)), Bts.b6 (Sp.g2 (Bts.mk w0 w1 w2 w3 w4 w5 w6) (List.drop (Int.toNat (i1 + 1)) l) (Bts.mk i23 i24 i25 i26 i27 i28 i29))) : LOut _ Bool)=LOut.brk ((↑(List.length l) : Int), i2, i3, i4, i5, i6, i7, i8, Bts.b0 (Sp.g2 (Bts.mk w0 w1 w2 w3 w4 w5 w6) (List.drop (Int.toNat i1) l) (Bts.mk i9 i10 i11 i12 i13 i14 i15)), Bts.b1 (Sp.g2 (Bts.mk w0 w1 w2 w3 w4 w5 w6) (List.drop (Int.toNat i1) l) (Bts.mk i9 i10 i11 i12 i13 i14 i15)), Bts.b2 (Sp.g2 (Bts.mk w0 w1 w2 w3 w4 w5 w6) (List.drop (Int.toNat i1) l) (Bts.mk i9 i10 i11 i12 i13 i14 i15)), Bts.b3 (Sp.g2 (Bts.mk w0 w1 w2 w3 w4 w5 w6) (List.drop (Int.toNat i1) l) (Bts.mk i9 i10 i11 i12 i13 i14 i15)), Bts.b4 (Sp.g2 (Bts.mk w0 w1 w2 w3 w4 w5 w6) (List.drop (Int.toNat i1) l) (Bts.mk i9 i10 i11 i12 i13 i14 i15)), Bts.b5 (Sp.g2 (Bts.mk w0 w1 w2 w3 w4 w5 w6) (List.drop (Int.toNat i1) l) (Bts.mk i9 i10 i11 i12 i13 i14 i15)), Bts.b6 (Sp.g2 (Bts.mk w0 w1 w2 w3 w4 w5 w6) (List.drop (Int.toNat i1) l) (Bts.mk i9 i10 i11 i12 i13 i14 i15)))) (inR .i64 (i1 + 1)∧(l=ed∧i=(↑(List.length l) : Int)∧List.length l < 9223372036854775808∧0≤i1 + 1∧i1 + 1≤(↑(List.length l) : Int)∧i2=w0∧i3=w1∧i4=w2∧i5=w3∧i6=w4∧i7=w5∧i8=w6)∧Int.toNat ((↑(List.length l) : Int) - (i1 + 1)) < Int.toNat ((↑(List.length l) : Int) - i1)∧(LOut.brk ((↑(List.length l) : Int), i2, i3, i4, i5, i6, i7, i8, Bts.b0 (Sp.g2 (Bts.mk w0 w1 w2 w3 w4 w5 w6) (List.drop (Int.toNat (i1 + 1)) l) (Bts.mk i16 i17 i18 i19 i20 i21 i22)), Bts.b1 (Sp.g2 (Bts.mk w0 w1 w2 w3 w4 w5 w6) (List.drop (Int.toNat (i1 + 1)) l) (Bts.mk i16 i17 i18 i19 i20 i21 i22)), Bts.b2 (Sp.g2 (Bts.mk w0 w1 w2 w3 w4 w5 w6) (List.drop (Int.toNat (i1 + 1)) l) (Bts.mk i16 i17 i18 i19 i20 i21 i22)), Bts.b3 (Sp.g2 (Bts.mk w0 w1 w2 w3 w4 w5 w6) (List.drop (Int.toNat (i1 + 1)) l) (Bts.mk i16 i17 i18 i19 i20 i21 i22)), Bts.b4 (Sp.g2 (Bts.mk w0 w1 w2 w3 w4 w5 w6) (List.drop (Int.toNat (i1 + 1)) l) (Bts.mk i16 i17 i18 i19 i20 i21 i22)), Bts.b5 (Sp.g2 (Bts.mk w0 w1 w2 w3 w4 w5 w6) (List.drop (Int.toNat (i1 + 1)) l) (Bts.mk i16 i17 i18 i19 i20 i21 i22)), Bts.b6 (Sp.g2 (Bts.mk w0 w1 w2 w3 w4 w5 w6) (List.drop (Int.toNat (i1 + 1)) l) (Bts.mk i16 i17 i18 i19 i20 i21 i22))) : LOut _ Bool)=LOut.brk ((↑(List.length l) : Int), i2, i3, i4, i5, i6, i7, i8, Bts.b0 (Sp.g2 (Bts.mk w0 w1 w2 w3 w4 w5 w6) (List.drop (Int.toNat i1) l) (Bts.mk i9 i10 i11 i12 i13 i14 i15)), Bts.b1 (Sp.g2 (Bts.mk w0 w1 w2 w3 w4 w5 w6) (List.drop (Int.toNat i1) l) (Bts.mk i9 i10 i11 i12 i13 i14 i15)), Bts.b2 (Sp.g2 (Bts.mk w0 w1 w2 w3 w4 w5 w6) (List.drop (Int.toNat i1) l) (Bts.mk i9 i10 i11 i12 i13 i14 i15)), Bts.b3 (Sp.g2 (Bts.mk w0 w1 w2 w3 w4 w5 w6) (List.drop (Int.toNat i1) l) (Bts.mk i9 i10 i11 i12 i13 i14 i15)), Bts.b4 (Sp.g2 (Bts.mk w0 w1 w2 w3 w4 w5 w6) (List.drop (Int.toNat i1) l) (Bts.mk i9 i10 i11 i12 i13 i14 i15)), Bts.b5 (Sp.g2 (Bts.mk w0 w1 w2 w3 w4 w5 w6) (List.drop (Int.toNat i1) l) (Bts.mk i9 i10 i11 i12 i13 i14 i15)), Bts.b6 (Sp.g2 (Bts.mk w0 w1 w2 w3 w4 w5 w6) (List.drop (Int.toNat i1) l) (Bts.mk i9 i10 i11 i12 i13 i14 i15))))) (inR .i64 (i1 + 1)∧(l=ed∧i=(↑(List.length l) : Int)∧List.length l < 9223372036854775808∧0≤i1 + 1∧i1 + 1≤(↑(List.length l) : Int)∧i2=w0∧i3=w1∧i4=w2∧i5=w3∧i6=w4∧i7=w5∧i8=w6)∧Int.toNat ((↑(List.length l) : Int) - (i1 + 1)) < Int.toNat ((↑(List.length l) : Int) - i1)∧(LOut.brk ((↑(List.length l) : Int), i2, i3, i4, i5, i6, i7, i8, Bts.b0 (Sp.g2 (Bts.mk w0 w1 w2 w3 w4 w5 w6) (List.drop (Int.toNat (i1 + 1)) l) (Bts.mk i9 i10 i11 i12 i13 i14 i15)), Bts.b1 (Sp.g2 (Bts.mk w0 w1 w2 w3 w4 w5 w6) (List.drop (Int.toNat (i1 + 1)) l) (Bts.mk i9 i10 i11 i12 i13 i14 i15)), Bts.b2 (Sp.g2 (Bts.mk w0 w1 w2 w3 w4 w5 w6) (List.drop (Int.toNat (i1 + 1)) l) (Bts.mk i9 i10 i11 i12 i13 i14 i15)), Bts.b3 (Sp.g2 (Bts.mk w0 w1 w2 w3 w4 w5 w6) (List.drop (Int.toNat (i1 + 1)) l) (Bts.mk i9 i10 i11 i12 i13 i14 i15)), Bts.b4 (Sp.g2 (Bts.mk w0 w1 w2 w3 w4 w5 w6) (List.drop (Int.toNat (i1 + 1)) l) (Bts.mk i9 i10 i11 i12 i13 i14 i15)), Bts.b5 (Sp.g2 (Bts.mk w0 w1 w2 w3 w4 w5 w6) (List.drop (Int.toNat (i1 + 1)) l) (Bts.mk i9 i10 i11 i12 i13 i14 i15)), Bts.b6 (Sp.g2 (Bts.mk w0 w1 w2 w3 w4 w5 w6) (List.drop (Int.toNat (i1 + 1)) l) (Bts.mk i9 i10 i11 i12 i13 i14 i15))) : LOut _ Bool)=LOut.brk ((↑(List.length l) : Int), i2, i3, i4, i5, i6, i7, i8, Bts.b0 (Sp.g2 (Bts.mk w0 w1 w2 w3 w4 w5 w6) (List.drop (Int.toNat i1) l) (Bts.mk i9 i10 i11 i12 i13 i14 i15)), Bts.b1 (Sp.g2 (Bts.mk w0 w1 w2 w3 w4 w5 w6) (List.drop (Int.toNat i1) l) (Bts.mk i9 i10 i11 i12 i13 i14 i15)), Bts.b2 (Sp.g2 (Bts.mk w0 w1 w2 w3 w4 w5 w6) (List.drop (Int.toNat i1) l) (Bts.mk i9 i10 i11 i12 i13 i14 i15)), Bts.b3 (Sp.g2 (Bts.mk w0 w1 w2 w3 w4 w5 w6) (List.drop (Int.toNat i1) l) (Bts.mk i9 i10 i11 i12 i13 i14 i15)), Bts.b4 (Sp.g2 (Bts.mk w0 w1 w2 w3 w4 w5 w6) (List.drop (Int.toNat i1) l) (Bts.mk i9 i10 i11 i12 i13 i14 i15)), Bts.b5 (Sp.g2 (Bts.mk w0 w1 w2 w3 w4 w5 w6) (List.drop (Int.toNat i1) l) (Bts.mk i9 i10 i11 i12 i13 i14 i15)), Bts.b6 (Sp.g2 (Bts.mk w0 w1 w2 w3 w4 w5 w6) (List.drop (Int.toNat i1) l) (Bts.mk i9 i10 i11 i12 i13 i14 i15))))) ((LOut.brk ((↑(List.length l) : Int), i2, i3, i4, i5, i6, i7, i8, Bts.b0 (Sp.g2 (Bts.mk w0 w1 w2 w3 w4 w5 w6) (List.drop (Int.toNat i1) l) (Bts.mk i9 i10 i11 i12 i13 i14 i15)), Bts.b1 (Sp.g2 (Bts.mk w0 w1 w2 w3 w4 w5 w6) (List.drop (Int.toNat i1) l) (Bts.mk i9 i10 i11 i12 i13 i14 i15)), Bts.b2 (Sp.g2 (Bts.mk w0 w1 w2 w3 w4 w5 w6) (List.drop (Int.toNat i1) l) (Bts.mk i9 i10 i11 i12 i13 i14 i15)), Bts.b3 (Sp.g2 (Bts.mk w0 w1 w2 w3 w4 w5 w6) (List.drop (Int.toNat i1) l) (Bts.mk i9 i10 i11 i12 i13 i14 i15)), Bts.b4 (Sp.g2 (Bts.mk w0 w1 w2 w3 w4 w5 w6) (List.drop (Int.toNat i1) l) (Bts.mk i9 i10 i11 i12 i13 i14 i15)), Bts.b5 (Sp.g2 (Bts.mk w0 w1 w2 w3 w4 w5 w6) (List.drop (Int.toNat i1) l) (Bts.mk i9 i10 i11 i12 i13 i14 i15)), Bts.b6 (Sp.g2 (Bts.mk w0 w1 w2 w3 w4 w5 w6) (List.drop (Int.toNat i1) l) (Bts.mk i9 i10 i11 i12 i13 i14 i15))) : LOut _ Bool)=LOut.brk (i1, i2, i3, i4, i5, i6, i7, i8, i9, i10, i11, i12, i13, i14, i15))
def regular_Automaton_trim_2.t (s : Bts) (n : Int) (st : Int) (fin : (List Int)) (ed : (List Edg)) (w0 : Int) (w1 : Int) (w2 : Int) (w3 : Int) (w4 : Int) (w5 : Int) (w6 : Int) : Prop :=
 List.length ed < 9223372036854775808→(ed=ed∧(↑(List.length ed) : Int)=(↑(List.length ed) : Int)∧List.length ed < 9223372036854775808∧(0 : Int)≤0∧0≤(↑(List.length ed) : Int)∧w0=w0∧w1=w1∧w2=w2∧w3=w3∧w4=w4∧w5=w5∧w6=w6)∧regular_Automaton_trim_2.l0 ed w0 w1 w2 w3 w4 w5 w6∧∀ i i1 i2 i3 i4 i5 i6 i7 i8 i9 i10 i11 i12 i13 i14 : Int, (LOut.brk ((↑(List.length ed) : Int), w0, w1, w2, w3, w4, w5, w6, Bts.b0 (Sp.g2 (Bts.mk w0 w1 w2 w3 w4 w5 w6) (List.drop (Int.toNat 0) ed) s), Bts.b1 (Sp.g2 (Bts.mk w0 w1 w2 w3 w4 w5 w6) (List.drop (Int.toNat 0) ed) s), Bts.b2 (Sp.g2 (Bts.mk w0 w1 w2 w3 w4 w5 w6) (List.drop (Int.toNat 0) ed) s), Bts.b3 (Sp.g2 (Bts.mk w0 w1 w2 w3 w4 w5 w6) (List.drop (Int.toNat 0) ed) s), Bts.b4 (Sp.g2 (Bts.mk w0 w1 w2 w3 w4 w5 w6) (List.drop (Int.toNat 0) ed) s), Bts.b5 (Sp.g2 (Bts.mk w0 w1 w2 w3 w4 w5 w6) (List.drop (Int.toNat 0) ed) s), Bts.b6 (Sp.g2 (Bts.mk w0 w1 w2 w3 w4 w5 w6) (List.drop (Int.toNat 0) ed) s)) : LOut _ Bool)=LOut.brk (i, i1, i2, i3, i4, i5, i6, i7, i8, i9, i10, i11, i12, i13, i14)→(Sp.g2 (Bts.mk w0 w1 w2 w3 w4 w5 w6) ed s, n, st, fin, ed, w0, w1, w2, w3, w4, w5, w6)=(Bts.mk i8 i9 i10 i11 i12 i13 i14, n, st, fin, ed, i1, i2, i3, i4, i5, i6, i7)
def term_Equal.t (a : (List Tm)) (b : (List Tm)) : Prop :=
 ∀ i : Int, Sp.cmpL a b=i→decide (Sp.cmpL a b=0)=decide (i=0)
def regular_same.t (a : Edg) (b : Edg) : Prop :=
 Sp.sameE a b=(decide (Edg.src a=Edg.src b) && decide (Edg.dst a=Edg.dst b) && decide (Edg.kind a=Edg.kind b) && decide (Edg.inner a=Edg.inner b) && decide (Sp.cmpL (Tm.mk (Tm.kind (Edg.sym a)) (Tm.text (Edg.sym a)) (Tm.kids (Edg.sym a)) :: ([] : List Tm)) (Tm.mk (Tm.kind (Edg.sym b)) (Tm.text (Edg.sym b)) (Tm.kids (Edg.sym b)) :: ([] : List Tm))=0) && decide (Sp.cmpL (Edg.exc a) (Edg.exc b)=0))
end Go.AL
namespace Go.AL
set_option linter.unusedVariables false
set_option linter.unusedSimpArgs false
set_option maxRecDepth 10000
attribute [local irreducible] wpF wpFX wpM wpFM
theorem regular_Edge_good.main (e : Edg) (x : Bts) (ha : (0 ≤ e.dst ∧ e.dst < 400) ∧ (e.kind = 5 → 0 ≤ e.inner ∧ e.inner < 400)) : regular_Edge_good.t e x := by
 obtain ⟨h1, h2⟩ := ha
 refine ⟨h1, fun b hb => ⟨fun h => h2 (by simpa using h.1), ?_⟩⟩
 subst hb
 simp only [Sp.good, ne_eq, decide_not]
theorem regular_Edge_good.ok (W : World) : CtrOK Go.Proofs.Tryz.prog W 68 regular_Edge_good.C := by
 refine funOK (Γ := lookC [(21, regular_set_has.C)]) (lookC_ok (fun p hp => by
  simp only [List.mem_cons, List.not_mem_nil, or_false] at hp
  subst hp; exact regular_set_has.ok W)) (Λ := fun a_ => match a_ with | (e, x) => (fun _ => none)) (Λr := fun a_ => match a_ with | (e, x) => (fun _ => none)) ?_
 intro a ha
 obtain ⟨e, x⟩ := a
 refine Eq.mpr ?_ (@regular_Edge_good.main e x ha)
 kernel_rfl
theorem regular_Automaton_trim_1.l0_ok (ed : List Edg) (ha : ∀ e ∈ ed, Sp.okE e) : regular_Automaton_trim_1.l0 ed := by
 rintro l m i s0 s1 s2 s3 s4 s5 s6 ⟨e1, e2, h3, h1, h2⟩
 subst l m
 refine ifD (fun h => ?_) fun h => ?_
 ·have hi : i.toNat < ed.length := by omega
  have e1 : (i + 1).toNat = i.toNat + 1 := by omega
  obtain ⟨q1, q2, q3, q4⟩ := ha _ (nth_mem (d := default) hi)
  refine ⟨by omega, ⟨q2, q4⟩, ?_⟩
  rintro b hb
  rw [Tm.eta, show (Edg.mk (nth default ed i).src (nth default ed i).dst (nth default ed i).kind (nth default ed i).sym (nth default ed i).exc (nth default ed i).inner) = nth default ed i from rfl] at hb
  have hk : Sp.g1 (List.drop i.toNat ed) ⟨s0, s1, s2, s3, s4, s5, s6⟩ = Sp.g1 (List.drop (i.toNat + 1) ed) (if b = true then Sp.bput ⟨s0, s1, s2, s3, s4, s5, s6⟩ (nth default ed i).src else ⟨s0, s1, s2, s3, s4, s5, s6⟩) := by
   rw [nth_drop (d := default) hi, Sp.g1, List.foldl_cons, Sp.g1s, hb]; rfl
  refine ifB_of (fun h4 => ⟨q1, ?_⟩) fun h4 => ⟨inR64 (by omega), ⟨rfl, rfl, h3, by omega, by omega⟩, by omega, ?_⟩
  ·rintro p0 p1 p2 p3 p4 p5 p6 hp
   simp only [Prod.mk.injEq, true_and] at hp
   obtain ⟨r0, r1, r2, r3, r4, r5, r6⟩ := hp
   subst r0 r1 r2 r3 r4 r5 r6
   refine ⟨inR64 (by omega), ⟨rfl, rfl, h3, by omega, by omega⟩, by omega, ?_⟩
   rw [hk, e1, if_pos h4]
  ·rw [hk, e1, if_neg (by rw [h4]; simp)]
 ·rw [List.drop_eq_nil_of_le (by omega), show i = ed.length by omega]
  rfl
theorem regular_Automaton_trim_1.main (s : Bts) (n st : Int) (fin : List Int) (ed : List Edg) (ha : ∀ e ∈ ed, Sp.okE e) : regular_Automaton_trim_1.t s n st fin ed := by
 refine fun h => ⟨⟨rfl, rfl, h, by omega, by omega⟩, regular_Automaton_trim_1.l0_ok ed ha, ?_⟩
 rintro i s0 s1 s2 s3 s4 s5 s6 hq
 simp only [LOut.brk.injEq, Prod.mk.injEq, Int.toNat_zero, List.drop_zero] at hq
 obtain ⟨_, r0, r1, r2, r3, r4, r5, r6⟩ := hq
 subst r0 r1 r2 r3 r4 r5 r6
 rfl
theorem regular_Automaton_trim_1.ok (W : World) : CtrOK Go.Proofs.Tryz.prog W 67 regular_Automaton_trim_1.C := by
 refine memOK (d := regular_Automaton_trim_1.d) (Γ := lookC [(68, regular_Edge_good.C), (69, regular_set_put.C)]) (lookC_ok (fun p hp => by
  simp only [List.mem_cons, List.not_mem_nil, or_false] at hp
  rcases hp with rfl | rfl
  ·exact regular_Edge_good.ok W
  ·exact regular_set_put.ok W)) (Λ := fun c_ s_ => match c_, s_ with | s, (n, st, fin, ed) => (regular_Automaton_trim_1.Λ s n st fin ed)) (Λr := fun c_ s_ => match c_, s_ with | s, (n, st, fin, ed) => (fun _ => none)) ?_
 intro c s hp
 obtain ⟨n, st, fin, ed⟩ := s
 refine Eq.mpr ?_ (@regular_Automaton_trim_1.main c n st fin ed hp)
 kernel_rfl
theorem regular_Automaton_trim_2.l0_ok (ed : List Edg) (w0 w1 w2 w3 w4 w5 w6 : Int) (ha : ∀ e ∈ ed, Sp.okE e) : regular_Automaton_trim_2.l0 ed w0 w1 w2 w3 w4 w5 w6 := by
 rintro l m i v0 v1 v2 v3 v4 v5 v6 s0 s1 s2 s3 s4 s5 s6 ⟨e1, e2, h3, h1, h2, f0, f1, f2, f3, f4, f5, f6⟩
 subst l m v0 v1 v2 v3 v4 v5 v6
 refine ifD (fun h => ?_) fun h => ?_
 ·have hi : i.toNat < ed.length := by omega
  have e1 : (i + 1).toNat = i.toNat + 1 := by omega
  obtain ⟨q1, q2, q3, q4⟩ := ha _ (nth_mem (d := default) hi)
  refine ⟨by omega, q1, ?_⟩
  rintro b hb
  rw [Tm.eta, show (Edg.mk (nth default ed i).src (nth default ed i).dst (nth default ed i).kind (nth default ed i).sym (nth default ed i).exc (nth default ed i).inner) = nth default ed i from rfl]
  have hk : Sp.g2 ⟨w0, w1, w2, w3, w4, w5, w6⟩ (List.drop i.toNat ed) ⟨s0, s1, s2, s3, s4, s5, s6⟩ = Sp.g2 ⟨w0, w1, w2, w3, w4, w5, w6⟩ (List.drop (i.toNat + 1) ed) (if (b && Sp.good (nth default ed i) ⟨w0, w1, w2, w3, w4, w5, w6⟩) = true then (if (nth default ed i).kind = 5 then Sp.bput (Sp.bput ⟨s0, s1, s2, s3, s4, s5, s6⟩ (nth default ed i).dst) (nth default ed i).inner else Sp.bput ⟨s0, s1, s2, s3, s4, s5, s6⟩ (nth default ed i).dst) else ⟨s0, s1, s2, s3, s4, s5, s6⟩) := by
   rw [nth_drop (d := default) hi, Sp.g2, List.foldl_cons, Sp.g2s, hb]; rfl
  refine ⟨fun _ => ⟨q2, q4⟩, ifB_of (fun h4 => ⟨q2, ?_⟩) fun h4 => ⟨inR64 (by omega), ⟨rfl, rfl, h3, by omega, by omega, rfl, rfl, rfl, rfl, rfl, rfl, rfl⟩, by omega, ?_⟩⟩
  ·rintro p0 p1 p2 p3 p4 p5 p6 hp
   simp only [Prod.mk.injEq, true_and] at hp
   obtain ⟨r0, r1, r2, r3, r4, r5, r6⟩ := hp
   rw [if_pos h4] at hk
   refine ifD (fun h5 => ⟨q4 h5, ?_⟩) fun h5 => ⟨inR64 (by omega), ⟨rfl, rfl, h3, by omega, by omega, rfl, rfl, rfl, rfl, rfl, rfl, rfl⟩, by omega, ?_⟩
   ·subst r0 r1 r2 r3 r4 r5 r6
    rintro p0 p1 p2 p3 p4 p5 p6 hp
    simp only [Prod.mk.injEq, true_and] at hp
    obtain ⟨r0, r1, r2, r3, r4, r5, r6⟩ := hp
    subst r0 r1 r2 r3 r4 r5 r6
    refine ⟨inR64 (by omega), ⟨rfl, rfl, h3, by omega, by omega, rfl, rfl, rfl, rfl, rfl, rfl, rfl⟩, by omega, ?_⟩
    rw [hk, e1, if_pos h5]
   ·subst r0 r1 r2 r3 r4 r5 r6
    rw [hk, e1, if_neg h5]
  ·rw [hk, e1, if_neg (by rw [h4]; simp)]
 ·rw [List.drop_eq_nil_of_le (by omega), show i = ed.length by omega]
  rfl
theorem regular_Automaton_trim_2.main (s : Bts) (n st : Int) (fin : List Int) (ed : List Edg) (w0 w1 w2 w3 w4 w5 w6 : Int) (ha : ∀ e ∈ ed, Sp.okE e) : regular_Automaton_trim_2.t s n st fin ed w0 w1 w2 w3 w4 w5 w6 := by
 refine fun h => ⟨⟨rfl, rfl, h, by omega, by omega, rfl, rfl, rfl, rfl, rfl, rfl, rfl⟩, regular_Automaton_trim_2.l0_ok ed w0 w1 w2 w3 w4 w5 w6 ha, ?_⟩
 rintro i v0 v1 v2 v3 v4 v5 v6 s0 s1 s2 s3 s4 s5 s6 hq
 simp only [LOut.brk.injEq, Prod.mk.injEq, Int.toNat_zero, List.drop_zero] at hq
 obtain ⟨_, g0, g1, g2, g3, g4, g5, g6, r0, r1, r2, r3, r4, r5, r6⟩ := hq
 subst g0 g1 g2 g3 g4 g5 g6 r0 r1 r2 r3 r4 r5 r6
 rfl
theorem regular_Automaton_trim_2.ok (W : World) : CtrOK Go.Proofs.Tryz.prog W 70 regular_Automaton_trim_2.C := by
 refine memOK (d := regular_Automaton_trim_2.d) (Γ := lookC [(21, regular_set_has.C), (68, regular_Edge_good.C), (69, regular_set_put.C)]) (lookC_ok (fun p hp => by
  simp only [List.mem_cons, List.not_mem_nil, or_false] at hp
  rcases hp with rfl | rfl | rfl
  ·exact regular_set_has.ok W
  ·exact regular_Edge_good.ok W
  ·exact regular_set_put.ok W)) (Λ := fun c_ s_ => match c_, s_ with | s, (n, st, fin, ed, w0, w1, w2, w3, w4, w5, w6) => (regular_Automaton_trim_2.Λ s n st fin ed w0 w1 w2 w3 w4 w5 w6)) (Λr := fun c_ s_ => match c_, s_ with | s, (n, st, fin, ed, w0, w1, w2, w3, w4, w5, w6) => (fun _ => none)) ?_
 intro c s hp
 obtain ⟨n, st, fin, ed, w0, w1, w2, w3, w4, w5, w6⟩ := s
 refine Eq.mpr ?_ (@regular_Automaton_trim_2.main c n st fin ed w0 w1 w2 w3 w4 w5 w6 hp)
 kernel_rfl
theorem term_Equal.main (a b : List Tm) : term_Equal.t a b := by
 rintro i rfl
 rfl
theorem term_Equal.ok (W : World) : CtrOK Go.Proofs.Tryz.prog W 101 term_Equal.C := by
 refine funOK (Γ := lookC [(90, term_Compare.C)]) (lookC_ok (fun p hp => by
  simp only [List.mem_cons, List.not_mem_nil, or_false] at hp
  subst hp; exact term_Compare.ok W)) (Λ := fun a_ => match a_ with | (a, b) => (fun _ => none)) (Λr := fun a_ => match a_ with | (a, b) => (fun _ => none)) ?_
 intro a ha
 obtain ⟨a, b⟩ := a
 refine Eq.mpr ?_ (@term_Equal.main a b)
 kernel_rfl
theorem regular_same.main (a b : Edg) : regular_same.t a b := by
 unfold regular_same.t
 rw [Tm.eta, Tm.eta]; rfl
theorem regular_same.ok (W : World) : CtrOK Go.Proofs.Tryz.prog W 73 regular_same.C := by
 refine funOK (Γ := lookC [(58, regular_compare.C), (101, term_Equal.C)]) (lookC_ok (fun p hp => by
  simp only [List.mem_cons, List.not_mem_nil, or_false] at hp
  rcases hp with rfl | rfl
  ·exact regular_compare.ok W
  ·exact term_Equal.ok W)) (Λ := fun a_ => match a_ with | (a, b) => (fun _ => none)) (Λr := fun a_ => match a_ with | (a, b) => (fun _ => none)) ?_
 intro a ha
 obtain ⟨a, b⟩ := a
 refine Eq.mpr ?_ (@regular_same.main a b)
 kernel_rfl
end Go.AL
namespace Go.AL
set_option linter.unusedVariables false
end Go.AL
namespace Sp
open Go.AL
def cnt (s : Bts) : Nat := ((List.range 448).filter fun n : Nat => bhas s n).length
end Sp
namespace Go.AL
def regular_Automaton_trim_3.d : LD := ({ cs := [0], cts := [.nm 6], pts := [(1, .loc 0 0)], vs := [], os := [(0, .plain, [none, none, none, none, none, none, none, none])], vts := [.int .i64, .int .i64, .int .i64, .int .i64, .str, .lst (.nm 0), .lst (.nm 0), .int .i64], own := [false, false, false, false, false, false, false, false], ro := [0, 1], nx := 1 } : LD)
def regular_Automaton_trim_3.C : Ctr := memCtr regular_Automaton_trim_3.d [.bool] none (fun (c_ : ElT [.nm 6]) (s_ : ElT [.int .i64, .int .i64, .int .i64, .int .i64, .str, .lst (.nm 0), .lst (.nm 0), .int .i64]) => match c_, s_ with | y, (x0, x1, x2, x3, x4, x5, x6, x7) => ((Sp.sameE ⟨x0, x1, x2, .mk x3 x4 x5, x6, x7⟩ y, (x0, x1, x2, x3, x4, x5, x6, x7))))
def slices_IndexFunc__t3.d : LD := ({ cs := [0], cts := [.lst (.nm 6)], pts := [(1, .fn 72 [] [.loc 0 0])], vs := [], os := [(0, .plain, [none, none, none, none, none, none, none, none])], vts := [.int .i64, .int .i64, .int .i64, .int .i64, .str, .lst (.nm 0), .lst (.nm 0), .int .i64], own := [false, false, false, false, false, false, false, false], ro := [0, 1], nx := 1 } : LD)
def slices_IndexFunc__t3.L0 : LD := { cs := [0, 7], cts := [.lst (.nm 6), .int .i64], pts := [(1, (.fn 72 [] [(.loc 0 0)]))], vs := [4, 8], os := [(0, .plain, [none, none, none, none, none, none, none, none])], vts := [.int .i64, .int .i64, .int .i64, .int .i64, .int .i64, .int .i64, .str, .lst (.nm 0), .lst (.nm 0), .int .i64], own := [false, false, false, false, false, false, false, false, false, false], ro := [0, 1, 6, 7], nx := 100 }
def slices_IndexFunc__t3.Λ (l : (List Edg)) (x0 : Int) (x1 : Int) (x2 : Int) (x3 : Int) (x4 : ByteArray) (x5 : (List Tm)) (x6 : (List Tm)) (x7 : Int) : Nat → Option (Loop (ElT [.bool])) := fun id =>
 if id = 0 then some (mkLoop slices_IndexFunc__t3.L0
  (fun (c_ : (List Edg) × Int) (s_ : Int × Int × Int × Int × Int × Int × ByteArray × (List Tm) × (List Tm) × Int) => match c_, s_ with | (c_l, m), (r, i, y0, y1, y2, y3, y4, y5, y6, y7) => c_l = l ∧ m = l.length ∧ 0 ≤ i ∧ i ≤ l.length ∧ l.length < 9223372036854775808 ∧ y0 = x0 ∧ y1 = x1 ∧ y2 = x2 ∧ y3 = x3 ∧ y4 = x4 ∧ y5 = x5 ∧ y6 = x6 ∧ y7 = x7)
  (fun (c_ : (List Edg) × Int) (s_ : Int × Int × Int × Int × Int × Int × ByteArray × (List Tm) × (List Tm) × Int) => match c_, s_ with | (c_l, m), (r, i, y0, y1, y2, y3, y4, y5, y6, y7) => (l.length - i : Int).toNat)
  (fun (c_ : (List Edg) × Int) (s_ : Int × Int × Int × Int × Int × Int × ByteArray × (List Tm) × (List Tm) × Int) => match c_, s_ with | (c_l, m), (r, i, y0, y1, y2, y3, y4, y5, y6, y7) => if (l.drop i.toNat).any (Sp.sameE ⟨x0, x1, x2, .mk x3 x4 x5, x6, x7⟩) = true then .ext 9999 (i + Sp.idxE (Sp.sameE ⟨x0, x1, x2, .mk x3 x4 x5, x6, x7⟩) (l.drop i.toNat), i + Sp.idxE (Sp.sameE ⟨x0, x1, x2, .mk x3 x4 x5, x6, x7⟩) (l.drop i.toNat), y0, y1, y2, y3, y4, y5, y6, y7) else .brk (r, (l.length : Int), y0, y1, y2, y3, y4, y5, y6, y7)) [9999] false) else
 none
def slices_IndexFunc__t3.C : Ctr := memCtr slices_IndexFunc__t3.d [.int .i64] none (fun (c_ : ElT [.lst (.nm 6)]) (s_ : ElT [.int .i64, .int .i64, .int .i64, .int .i64, .str, .lst (.nm 0), .lst (.nm 0), .int .i64]) => match c_, s_ with | l, (x0, x1, x2, x3, x4, x5, x6, x7) => ((Sp.idxE (Sp.sameE ⟨x0, x1, x2, .mk x3 x4 x5, x6, x7⟩) l, (x0, x1, x2, x3, x4, x5, x6, x7))))
def slices_ContainsFunc__t3.d : LD := ({ cs := [0], cts := [.lst (.nm 6)], pts := [(1, .fn 72 [] [.loc 0 0])], vs := [], os := [(0, .plain, [none, none, none, none, none, none, none, none])], vts := [.int .i64, .int .i64, .int .i64, .int .i64, .str, .lst (.nm 0), .lst (.nm 0), .int .i64], own := [false, false, false, false, false, false, false, false], ro := [0, 1], nx := 1 } : LD)
def slices_ContainsFunc__t3.C : Ctr := memCtr slices_ContainsFunc__t3.d [.bool] none (fun (c_ : ElT [.lst (.nm 6)]) (s_ : ElT [.int .i64, .int .i64, .int .i64, .int .i64, .str, .lst (.nm 0), .lst (.nm 0), .int .i64]) => match c_, s_ with | l, (x0, x1, x2, x3, x4, x5, x6, x7) => ((l.any (Sp.sameE ⟨x0, x1, x2, .mk x3 x4 x5, x6, x7⟩), (x0, x1, x2, x3, x4, x5, x6, x7))))
def regular_grow__1.d : LD := ({ cs := [0], cts := [.nm 8], pts := [(1, .fn 67 [] [.loc 0 0])], vs := [], os := [(0, .plain, [none, none, none, none])], vts := [.int .i64, .int .i64, .lst (.int .i64), .lst (.nm 6)], own := [false, false, false, false], ro := [0, 1], nx := 1 } : LD)
def regular_grow__1.L0 : LD := { cs := [], cts := [], pts := [(1, (.fn 67 [] [(.loc 0 0)])), (2, (.loc 5 0)), (4, (.loc 6 0))], vs := [], os := [(0, .plain, [none, none, none, none]), (5, .plain, [none, none, none, none, none, none, none]), (6, .plain, [none, none, none, none, none, none, none])], vts := [.int .i64, .int .i64, .lst (.int .i64), .lst (.nm 6), .int .u64, .int .u64, .int .u64, .int .u64, .int .u64, .int .u64, .int .u64, .int .u64, .int .u64, .int .u64, .int .u64, .int .u64, .int .u64, .int .u64], own := [false, false, false, false, false, false, false, false, false, false, false, false, false, false, false, false, false, false], ro := [0, 1, 2, 4], nx := 100 }
def regular_grow__1.Λ (s : Bts) (n : Int) (st : Int) (fin : (List Int)) (ed : (List Edg)) : Nat → Option (Loop (ElT [.bool])) := fun id =>
 if id = 0 then some (mkLoop regular_grow__1.L0
  (fun (c_ : Unit) (s_ : Int × Int × (List Int) × (List Edg) × Int × Int × Int × Int × Int × Int × Int × Int × Int × Int × Int × Int × Int × Int) => match c_, s_ with | (), (n1, st1, fin1, ed1, s0, s1, s2, s3, s4, s5, s6, r0, r1, r2, r3, r4, r5, r6) => n1 = n ∧ st1 = st ∧ fin1 = fin ∧ ed1 = ed ∧ Sp.okW ⟨s0, s1, s2, s3, s4, s5, s6⟩)
  (fun (c_ : Unit) (s_ : Int × Int × (List Int) × (List Edg) × Int × Int × Int × Int × Int × Int × Int × Int × Int × Int × Int × Int × Int × Int) => match c_, s_ with | (), (n1, st1, fin1, ed1, s0, s1, s2, s3, s4, s5, s6, r0, r1, r2, r3, r4, r5, r6) => 448 - Sp.cnt ⟨s0, s1, s2, s3, s4, s5, s6⟩)
  (fun (c_ : Unit) (s_ : Int × Int × (List Int) × (List Edg) × Int × Int × Int × Int × Int × Int × Int × Int × Int × Int × Int × Int × Int × Int) => match c_, s_ with | (), (n1, st1, fin1, ed1, s0, s1, s2, s3, s4, s5, s6, r0, r1, r2, r3, r4, r5, r6) => .ext 9999 (n1, st1, fin1, ed1, (Sp.fixN (Sp.g1 ed1) 449 ⟨s0, s1, s2, s3, s4, s5, s6⟩).b0, (Sp.fixN (Sp.g1 ed1) 449 ⟨s0, s1, s2, s3, s4, s5, s6⟩).b1, (Sp.fixN (Sp.g1 ed1) 449 ⟨s0, s1, s2, s3, s4, s5, s6⟩).b2, (Sp.fixN (Sp.g1 ed1) 449 ⟨s0, s1, s2, s3, s4, s5, s6⟩).b3, (Sp.fixN (Sp.g1 ed1) 449 ⟨s0, s1, s2, s3, s4, s5, s6⟩).b4, (Sp.fixN (Sp.g1 ed1) 449 ⟨s0, s1, s2, s3, s4, s5, s6⟩).b5, (Sp.fixN (Sp.g1 ed1) 449 ⟨s0, s1, s2, s3, s4, s5, s6⟩).b6, (Sp.fixN (Sp.g1 ed1) 449 ⟨s0, s1, s2, s3, s4, s5, s6⟩).b0, (Sp.fixN (Sp.g1 ed1) 449 ⟨s0, s1, s2, s3, s4, s5, s6⟩).b1, (Sp.fixN (Sp.g1 ed1) 449 ⟨s0, s1, s2, s3, s4, s5, s6⟩).b2, (Sp.fixN (Sp.g1 ed1) 449 ⟨s0, s1, s2, s3, s4, s5, s6⟩).b3, (Sp.fixN (Sp.g1 ed1) 449 ⟨s0, s1, s2, s3, s4, s5, s6⟩).b4, (Sp.fixN (Sp.g1 ed1) 449 ⟨s0, s1, s2, s3, s4, s5, s6⟩).b5, (Sp.fixN (Sp.g1 ed1) 449 ⟨s0, s1, s2, s3, s4, s5, s6⟩).b6)) [9999] false) else
 none
def regular_grow__1.C : Ctr := memCtr regular_grow__1.d [.nm 8] (some (fun (c_ : ElT [.nm 8]) (s_ : ElT [.int .i64, .int .i64, .lst (.int .i64), .lst (.nm 6)]) => match c_, s_ with | s, (n, st, fin, ed) => (∀ e ∈ ed, Sp.okE e) ∧ Sp.okW s)) (fun (c_ : ElT [.nm 8]) (s_ : ElT [.int .i64, .int .i64, .lst (.int .i64), .lst (.nm 6)]) => match c_, s_ with | s, (n, st, fin, ed) => ((Sp.fixN (Sp.g1 ed) 449 s, (n, st, fin, ed))))
end Go.AL
namespace Go.AL
set_option linter.unusedVariables false
set_option maxRecDepth 10000
def regular_Automaton_trim_3.t (y : Edg) (x0 : Int) (x1 : Int) (x2 : Int) (x3 : Int) (x4 : ByteArray) (x5 : (List Tm)) (x6 : (List Tm)) (x7 : Int) : Prop :=
 ∀ b : Bool, Sp.sameE (Edg.mk x0 x1 x2 (Tm.mk x3 x4 x5) x6 x7) (Edg.mk (Edg.src y) (Edg.dst y) (Edg.kind y) (Tm.mk (Tm.kind (Edg.sym y)) (Tm.text (Edg.sym y)) (Tm.kids (Edg.sym y))) (Edg.exc y) (Edg.inner y))=b→(Sp.sameE (Edg.mk x0 x1 x2 (Tm.mk x3 x4 x5) x6 x7) y, x0, x1, x2, x3, x4, x5, x6, x7)=(b, x0, x1, x2, x3, x4, x5, x6, x7)
def slices_IndexFunc__t3.l0 (l : (List Edg)) (x0 : Int) (x1 : Int) (x2 : Int) (x3 : Int) (x4 : ByteArray) (x5 : (List Tm)) (x6 : (List Tm)) (x7 : Int) : Prop :=
 ∀ l1 : List Edg, ∀ i i1 i2 i3 i4 i5 i6 : Int, ∀ s : ByteArray, ∀ l2 l3 : List Tm, ∀ i7 : Int, l1=l∧i=(↑(List.length l) : Int)∧0≤i2∧i2≤(↑(List.length l) : Int)∧List.length l < 9223372036854775808∧i3=x0∧i4=x1∧i5=x2∧i6=x3∧s=x4∧l2=x5∧l3=x6∧i7=x7→ifB (decide (i2 < i)) ((0≤i2∧i2 < (↑(List.length l1) : Int))∧∀ b : Bool, ∀ i8 i9 i10 i11 : Int, ∀ s1 : ByteArray, ∀ l4 l5 : List Tm, ∀ i12 : Int, (Sp.sameE (Edg.mk i3 i4 i5 (Tm.mk i6 s l2) l3 i7) (nth Inhabited.default l1 i2), i3, i4, i5, i6, s, l2, l3, i7)=(b, i8, i9, i10, i11, s1, l4, l5, i12)→ifB b ((ite (List.any (List.drop (Int.toNat i2) l) (Sp.sameE (Edg.mk x0 x1 x2 (Tm.mk x3 x4 x5) x6 x7))=true) (LOut.ext 9999 (i2 + Sp.idxE (Sp.sameE (Edg.mk x0 x1 x2 (Tm.mk x3 x4 x5) x6 x7)) (List.drop (Int.toNat i2) l), i2 + Sp.idxE (Sp.sameE (Edg.mk x0 x1 x2 (Tm.mk x3 x4 x5) x6 x7)) (List.drop (Int.toNat i2) l), i3, i4, i5, i6, s, l2, l3, i7)) (LOut.brk (i1, (↑(List.length l) : Int), i3, i4, i5, i6, s, l2, l3, i7)) : LOut _ Bool)=LOut.ext 9999 (i2, i2, i8, i9, i10, i11, s1, l4, l5, i12)) (inR .i64 (i2 + 1)∧(l1=l∧i=(↑(List.length l) : Int)∧0≤i2 + 1∧i2 + 1≤(↑(List.length l) : Int)∧List.length l < 9223372036854775808∧i8=x0∧i9=x1∧i10=x2∧i11=x3∧s1=x4∧l4=x5∧l5=x6∧i12=x7)∧Int.toNat ((↑(List.length l) : Int) - (i2 + 1)) < Int.toNat ((↑(List.length l) : Int) - i2)∧(ite (List.any (List.drop (Int.toNat (i2 + 1)) l) (Sp.sameE (Edg.mk x0 x1 x2 (Tm.mk x3 x4 x5) x6 x7))=true) (LOut.ext 9999 (i2 + 1 + Sp.idxE (Sp.sameE (Edg.mk x0 x1 x2 (Tm.mk x3 x4 x5) x6 x7)) (List.drop (Int.toNat (i2 + 1)) l), i2 + 1 + Sp.idxE (Sp.sameE (Edg.mk x0 x1 x2 (Tm.mk x3 x4 x5) x6 x7)) (List.drop (Int.toNat (i2 + 1)) l), i8, i9, i10, i11, s1, l4, l5, i12)) (LOut.brk (i1, (↑(List.length l) : Int), i8, i9, i10, i11, s1, l4, l5, i12)) : LOut _ Bool)=ite (List.any (List.drop (Int.toNat i2) l) (Sp.sameE (Edg.mk x0 x1 x2 (Tm.mk x3 x4 x5) x6 x7))=true) (LOut.ext 9999 (i2 + Sp.idxE (Sp.sameE (Edg.mk x0 x1 x2 (Tm.mk x3 x4 x5) x6 x7)) (List.drop (Int.toNat i2) l), i2 + Sp.idxE (Sp.sameE (Edg.mk x0 x1 x2 (Tm.mk x3 x4 x5) x6 x7)) (List.drop (Int.toNat i2) l), i3, i4, i5, i6, s, l2, l3, i7)) (LOut.brk (i1, (↑(List.length l) : Int), i3, i4, i5, i6, s, l2, l3, i7)))) ((ite (List.any (List.drop (Int.toNat i2) l) (Sp.sameE (Edg.mk x0 x1 x2 (Tm.mk x3 x4 x5) x6 x7))=true) (LOut.ext 9999 (i2 + Sp.idxE (Sp.sameE (Edg.mk x0 x1 x2 (Tm.mk x3 x4 x5) x6 x7)) (List.drop (Int.toNat i2) l), i2 + Sp.idxE (Sp.sameE (Edg.mk x0 x1 x2 (Tm.mk x3 x4 x5) x6 x7)) (List.drop (Int.toNat i2) l), i3, i4, i5, i6, s, l2, l3, i7)) (LOut.brk (i1, (↑(List.length l) : Int), i3, i4, i5, i6, s, l2, l3, i7)) : LOut _ Bool)=LOut.brk (i1, i2, i3, i4, i5, i6, s, l2, l3, i7))
def slices_IndexFunc__t3.t (l : (List Edg)) (x0 : Int) (x1 : Int) (x2 : Int) (x3 : Int) (x4 : ByteArray) (x5 : (List Tm)) (x6 : (List Tm)) (x7 : Int) : Prop :=
 List.length l < 9223372036854775808→(l=l∧(↑(List.length l) : Int)=(↑(List.length l) : Int)∧(0 : Int)≤0∧0≤(↑(List.length l) : Int)∧List.length l < 9223372036854775808∧x0=x0∧x1=x1∧x2=x2∧x3=x3∧x4=x4∧x5=x5∧x6=x6∧x7=x7)∧slices_IndexFunc__t3.l0 l x0 x1 x2 x3 x4 x5 x6 x7∧(∀ i i1 i2 i3 i4 i5 : Int, ∀ s : ByteArray, ∀ l1 l2 : List Tm, ∀ i6 : Int, (ite (List.any (List.drop (Int.toNat 0) l) (Sp.sameE (Edg.mk x0 x1 x2 (Tm.mk x3 x4 x5) x6 x7))=true) (LOut.ext 9999 (0 + Sp.idxE (Sp.sameE (Edg.mk x0 x1 x2 (Tm.mk x3 x4 x5) x6 x7)) (List.drop (Int.toNat 0) l), 0 + Sp.idxE (Sp.sameE (Edg.mk x0 x1 x2 (Tm.mk x3 x4 x5) x6 x7)) (List.drop (Int.toNat 0) l), x0, x1, x2, x3, x4, x5, x6, x7)) (LOut.brk (0, (↑(List.length l) : Int), x0, x1, x2, x3, x4, x5, x6, x7)) : LOut (Int × Int × Int × Int × Int × Int × ByteArray × List Tm × List Tm × Int) Bool)=LOut.brk (i, i1, i2, i3, i4, i5, s, l1, l2, i6)→(Sp.idxE (Sp.sameE (Edg.mk x0 x1 x2 (Tm.mk x3 x4 x5) x6 x7)) l, x0, x1, x2, x3, x4, x5, x6, x7)=(-1, i2, i3, i4, i5, s, l1, l2, i6))∧∀ i i1 i2 i3 i4 i5 : Int, ∀ s : ByteArray, ∀ l1 l2 : List Tm, ∀ i6 : Int, (ite (List.any (List.drop (Int.toNat 0) l) (Sp.sameE (Edg.mk x0 x1 x2 (Tm.mk x3 x4 x5) x6 x7))=true) (LOut.ext 9999 (0 + Sp.idxE (Sp.sameE (Edg.mk x0 x1 x2 (Tm.mk x3 x4 x5) x6 x7)) (List.drop (Int.toNat 0) l), 0 + Sp.idxE (Sp.sameE (Edg.mk x0 x1 x2 (Tm.mk x3 x4 x5) x6 x7)) (List.drop (Int.toNat 0) l), x0, x1, x2, x3, x4, x5, x6, x7)) (LOut.brk (0, (↑(List.length l) : Int), x0, x1, x2, x3, x4, x5, x6, x7)) : LOut (Int × Int × Int × Int × Int × Int × ByteArray × List Tm × List Tm × Int) Bool)=LOut.ext 9999 (i, i1, i2, i3, i4, i5, s, l1, l2, i6)→(Sp.idxE (Sp.sameE (Edg.mk x0 x1 x2 (Tm.mk x3 x4 x5) x6 x7)) l, x0, x1, x2, x3, x4, x5, x6, x7)=(i, i2, i3, i4, i5, s, l1, l2, i6)
def slices_ContainsFunc__t3.t (l : (List Edg)) (x0 : Int) (x1 : Int) (x2 : Int) (x3 : Int) (x4 : ByteArray) (x5 : (List Tm)) (x6 : (List Tm)) (x7 : Int) : Prop :=
 ∀ i i1 i2 i3 i4 : Int, ∀ s : ByteArray, ∀ l1 l2 : List Tm, ∀ i5 : Int, (Sp.idxE (Sp.sameE (Edg.mk x0 x1 x2 (Tm.mk x3 x4 x5) x6 x7)) l, x0, x1, x2, x3, x4, x5, x6, x7)=(i, i1, i2, i3, i4, s, l1, l2, i5)→(List.any l (Sp.sameE (Edg.mk x0 x1 x2 (Tm.mk x3 x4 x5) x6 x7)), x0, x1, x2, x3, x4, x5, x6, x7)=(decide (0≤i), i1, i2, i3, i4, s, l1, l2, i5)
def regular_grow__1.l0 (n : Int) (st : Int) (fin : (List Int)) (ed : (List Edg)) : Prop :=
 ∀ i i1 : Int, ∀ l : List Int, ∀ l1 : List Edg, ∀ i2 i3 i4 i5 i6 i7 i8 : Int, Int→Int→Int→Int→Int→Int→Int→i=n∧i1=st∧l=fin∧l1=ed∧Sp.okW (Bts.mk i2 i3 i4 i5 i6 i7 i8)→(∀ x : Edg, Membership.mem l1 x→Sp.okE x)∧∀ x : Bts, ∀ i9 i10 : Int, ∀ l2 : List Int, ∀ l3 : List Edg, (Sp.g1 l1 (Bts.mk i2 i3 i4 i5 i6 i7 i8), i, i1, l, l1)=(x, i9, i10, l2, l3)→ifB (!(BEq.beq false (decide (Bts.b0 x :: Bts.b1 x :: Bts.b2 x :: Bts.b3 x :: Bts.b4 x :: Bts.b5 x :: Bts.b6 x :: ([] : List Int)=i2 :: i3 :: i4 :: i5 :: i6 :: i7 :: i8 :: ([] : List Int))))) ((LOut.ext 9999 (i, i1, l, l1, Bts.b0 (Sp.fixN (Sp.g1 l1) 449 (Bts.mk i2 i3 i4 i5 i6 i7 i8)), Bts.b1 (Sp.fixN (Sp.g1 l1) 449 (Bts.mk i2 i3 i4 i5 i6 i7 i8)), Bts.b2 (Sp.fixN (Sp.g1 l1) 449 (Bts.mk i2 i3 i4 i5 i6 i7 i8)), Bts.b3 (Sp.fixN (Sp.g1 l1) 449 (Bts.mk i2 i3 i4 i5 i6 i7 i8)), Bts.b4 (Sp.fixN (Sp.g1 l1) 449 (Bts.mk i2 i3 i4 i5 i6 i7 i8)), Bts.b5 (Sp.fixN (Sp.g1 l1) 449 (Bts.mk i2 i3 i4 i5 i6 i7 i8)), Bts.b6 (Sp.fixN (Sp.g1 l1) 449 (Bts.mk i2 i3 i4 i5 i6 i7 i8)), Bts.b0 (Sp.fixN (Sp.g1 l1) 449 (Bts.mk i2 i3 i4 i5 i6 i7 i8)), Bts.b1 (Sp.fixN (Sp.g1 l1) 449 (Bts.mk i2 i3 i4 i5 i6 i7 i8)), Bts.b2 (Sp.fixN (Sp.g1 l1) 449 (Bts.mk i2 i3 i4 i5 i6 i7 i8)), Bts.b3 (Sp.fixN (Sp.g1 l1) 449 (Bts.mk i2 i3 i4 i5 i6 i7 i8)), Bts.b4 (Sp.fixN (Sp.g1 l1) 449 (Bts.mk i2 i3 i4 i5 i6 i7 i8)), Bts.b5 (Sp.fixN (Sp.g1 l1) 449 (Bts.mk i2 i3 i4 i5 i6 i7 i8)), Bts.b6 (Sp.fixN (Sp.g1 l1) 449 (Bts.mk i2 i3 i4 i5 i6 i7 i8))) : LOut _ Bool)=LOut.ext 9999 (i9, i10, l2, l3, i2, i3, i4, i5, i6, i7, i8, i2, i3, i4, i5, i6, i7, i8)) ((i9=n∧i10=st∧l2=fin∧l3=ed∧Sp.okW x)∧448 - Sp.cnt x < 448 - Sp.cnt (Bts.mk i2 i3 i4 i5 i6 i7 i8)∧(LOut.ext 9999 (i9, i10, l2, l3, Bts.b0 (Sp.fixN (Sp.g1 l3) 449 x), Bts.b1 (Sp.fixN (Sp.g1 l3) 449 x), Bts.b2 (Sp.fixN (Sp.g1 l3) 449 x), Bts.b3 (Sp.fixN (Sp.g1 l3) 449 x), Bts.b4 (Sp.fixN (Sp.g1 l3) 449 x), Bts.b5 (Sp.fixN (Sp.g1 l3) 449 x), Bts.b6 (Sp.fixN (Sp.g1 l3) 449 x), Bts.b0 (Sp.fixN (Sp.g1 l3) 449 x), Bts.b1 (Sp.fixN (Sp.g1 l3) 449 x), Bts.b2 (Sp.fixN (Sp.g1 l3) 449 x), Bts.b3 (Sp.fixN (Sp.g1 l3) 449 x), Bts.b4 (Sp.fixN (Sp.g1 l3) 449 x), Bts.b5 (Sp.fixN (Sp.g1 l3) 449 x), Bts.b6 (Sp.fixN (Sp.g1 l3) 449 x)) : LOut _ Bool)=LOut.ext 9999 (i, i1, l, l1, Bts.b0 (Sp.fixN (Sp.g1 l1) 449 (Bts.mk i2 i3 i4 i5 i6 i7 i8)), Bts.b1 (Sp.fixN (Sp.g1 l1) 449 (Bts.mk i2 i3 i4 i5 i6 i7 i8)), Bts.b2 (Sp.fixN (Sp.g1 l1) 449 (Bts.mk i2 i3 i4 i5 i6 i7 i8)), Bts.b3 (Sp.fixN (Sp.g1 l1) 449 (Bts.mk i2 i3 i4 i5 i6 i7 i8)), Bts.b4 (Sp.fixN (Sp.g1 l1) 449 (Bts.mk i2 i3 i4 i5 i6 i7 i8)), Bts.b5 (Sp.fixN (Sp.g1 l1) 449 (Bts.mk i2 i3 i4 i5 i6 i7 i8)), Bts.b6 (Sp.fixN (Sp.g1 l1) 449 (Bts.mk i2 i3 i4 i5 i6 i7 i8)), Bts.b0 (Sp.fixN (Sp.g1 l1) 449 (Bts.mk i2 i3 i4 i5 i6 i7 i8)), Bts.b1 (Sp.fixN (Sp.g1 l1) 449 (Bts.mk i2 i3 i4 i5 i6 i7 i8)), Bts.b2 (Sp.fixN (Sp.g1 l1) 449 (Bts.mk i2 i3 i4 i5 i6 i7 i8)), Bts.b3 (Sp.fixN (Sp.g1 l1) 449 (Bts.mk i2 i3 i4 i5 i6 i7 i8)), Bts.b4 (Sp.fixN (Sp.g1 l1) 449 (Bts.mk i2 i3 i4 i5 i6 i7 i8)), Bts.b5 (Sp.fixN (Sp.g1 l1) 449 (Bts.mk i2 i3 i4 i5 i6 i7 i8)), Bts.b6 (Sp.fixN (Sp.g1 l1) 449 (Bts.mk i2 i3 i4 i5 i6 i7 i8))))
def regular_grow__1.t (s : Bts) (n : Int) (st : Int) (fin : (List Int)) (ed : (List Edg)) : Prop :=
 (n=n∧st=st∧fin=fin∧ed=ed∧Sp.okW s)∧regular_grow__1.l0 n st fin ed∧(∀ i i1 : Int, ∀ l : List Int, ∀ l1 : List Edg, ∀ i2 i3 i4 i5 i6 i7 i8 i9 i10 i11 i12 i13 i14 i15 : Int, (LOut.ext 9999 (n, st, fin, ed, Bts.b0 (Sp.fixN (Sp.g1 ed) 449 s), Bts.b1 (Sp.fixN (Sp.g1 ed) 449 s), Bts.b2 (Sp.fixN (Sp.g1 ed) 449 s), Bts.b3 (Sp.fixN (Sp.g1 ed) 449 s), Bts.b4 (Sp.fixN (Sp.g1 ed) 449 s), Bts.b5 (Sp.fixN (Sp.g1 ed) 449 s), Bts.b6 (Sp.fixN (Sp.g1 ed) 449 s), Bts.b0 (Sp.fixN (Sp.g1 ed) 449 s), Bts.b1 (Sp.fixN (Sp.g1 ed) 449 s), Bts.b2 (Sp.fixN (Sp.g1 ed) 449 s), Bts.b3 (Sp.fixN (Sp.g1 ed) 449 s), Bts.b4 (Sp.fixN (Sp.g1 ed) 449 s), Bts.b5 (Sp.fixN (Sp.g1 ed) 449 s), Bts.b6 (Sp.fixN (Sp.g1 ed) 449 s)) : LOut _ Bool)=LOut.brk (i, i1, l, l1, i2, i3, i4, i5, i6, i7, i8, i9, i10, i11, i12, i13, i14, i15)→(Sp.fixN (Sp.g1 ed) 449 s, n, st, fin, ed)=(Bts.mk i9 i10 i11 i12 i13 i14 i15, i, i1, l, l1))∧∀ i i1 : Int, ∀ l : List Int, ∀ l1 : List Edg, ∀ i2 i3 i4 i5 i6 i7 i8 i9 i10 i11 i12 i13 i14 i15 : Int, (LOut.ext 9999 (n, st, fin, ed, Bts.b0 (Sp.fixN (Sp.g1 ed) 449 s), Bts.b1 (Sp.fixN (Sp.g1 ed) 449 s), Bts.b2 (Sp.fixN (Sp.g1 ed) 449 s), Bts.b3 (Sp.fixN (Sp.g1 ed) 449 s), Bts.b4 (Sp.fixN (Sp.g1 ed) 449 s), Bts.b5 (Sp.fixN (Sp.g1 ed) 449 s), Bts.b6 (Sp.fixN (Sp.g1 ed) 449 s), Bts.b0 (Sp.fixN (Sp.g1 ed) 449 s), Bts.b1 (Sp.fixN (Sp.g1 ed) 449 s), Bts.b2 (Sp.fixN (Sp.g1 ed) 449 s), Bts.b3 (Sp.fixN (Sp.g1 ed) 449 s), Bts.b4 (Sp.fixN (Sp.g1 ed) 449 s), Bts.b5 (Sp.fixN (Sp.g1 ed) 449 s), Bts.b6 (Sp.fixN (Sp.g1 ed) 449 s)) : LOut _ Bool)=LOut.ext 9999 (i, i1, l, l1, i2, i3, i4, i5, i6, i7, i8, i9, i10, i11, i12, i13, i14, i15)→(Sp.fixN (Sp.g1 ed) 449 s, n, st, fin, ed)=(Bts.mk i9 i10 i11 i12 i13 i14 i15, i, i1, l, l1)
end Go.AL
namespace Go.AL
set_option linter.unusedVariables false
set_option linter.unusedSimpArgs false
set_option maxRecDepth 10000
attribute [local irreducible] wpF wpFX wpM wpFM
theorem Sp.filt_le {p q : Nat → Bool} : ∀ {n : Nat}, (∀ k < n, p k = true → q k = true) → ((List.range n).filter p).length ≤ ((List.range n).filter q).length
 | 0, _ => by simp
 | n + 1, h => by
   have ih := Sp.filt_le (n := n) fun k hk => h k (by omega)
   have hn := h n (by omega)
   simp only [List.range_succ, List.filter_append, List.length_append, List.filter_cons, List.filter_nil]
   cases hp : p n <;> cases hq : q n <;> simp only [Bool.false_eq_true, if_false, if_true, List.length_nil, List.length_cons] <;> first | omega | skip
   simp [hp, hq] at hn
theorem Sp.filt_lt {p q : Nat → Bool} : ∀ {n : Nat}, (∀ k < n, p k = true → q k = true) → (∃ k < n, p k = false ∧ q k = true) → ((List.range n).filter p).length < ((List.range n).filter q).length
 | 0, _, ⟨k, hk, _⟩ => by omega
 | n + 1, h, ⟨k, hk, h1, h2⟩ => by
   have hn := h n (by omega)
   simp only [List.range_succ, List.filter_append, List.length_append, List.filter_cons, List.filter_nil]
   by_cases e : k = n
   ·subst e
    have := Sp.filt_le (n := k) fun j hj => h j (by omega)
    simp only [h1, h2, Bool.false_eq_true, if_false, if_true, List.length_nil, List.length_cons]; omega
   ·have ih := Sp.filt_lt (n := n) (fun k hk => h k (by omega)) ⟨k, by omega, h1, h2⟩
    cases hp : p n <;> cases hq : q n <;> simp only [Bool.false_eq_true, if_false, if_true, List.length_nil, List.length_cons] <;> first | omega | skip
    simp [hp, hq] at hn
theorem Sp.cnt_le (s : Bts) : Sp.cnt s ≤ 448 := by
 unfold Sp.cnt
 exact Nat.le_trans (List.length_filter_le _ _) (by rw [List.length_range]; omega)
theorem Sp.bits_ext {s t : Bts} (hs : Sp.okW s) (ht : Sp.okW t) (h : ∀ n : Int, 0 ≤ n → n < 448 → Sp.bhas s n = Sp.bhas t n) : s = t := by
 have key : ∀ i : Int, 0 ≤ i → i < 7 → Sp.bword s i = Sp.bword t i := by
  intro i h0 h7
  obtain ⟨a0, a1⟩ := hs i h0 h7
  obtain ⟨b0, b1⟩ := ht i h0 h7
  have : (Sp.bword s i).toNat = (Sp.bword t i).toNat := by
   apply Nat.eq_of_testBit_eq
   intro k
   by_cases hk : k < 64
   ·have := h (64 * i + k) (by omega) (by omega)
    rw [Sp.bhas_eq hs (by omega) (by omega), Sp.bhas_eq ht (by omega) (by omega), show (64 * i + (k : Int)) / 64 = i by omega, show ((64 * i + (k : Int)) % 64).toNat = k by omega] at this
    exact this
   ·have e : 2 ^ 64 ≤ 2 ^ k := Nat.pow_le_pow_right (by omega) (by omega)
    rw [Nat.testBit_lt_two_pow (by omega), Nat.testBit_lt_two_pow (by omega)]
  omega
 have e0 := key 0 (by omega) (by omega)
 have e1 := key 1 (by omega) (by omega)
 have e2 := key 2 (by omega) (by omega)
 have e3 := key 3 (by omega) (by omega)
 have e4 := key 4 (by omega) (by omega)
 have e5 := key 5 (by omega) (by omega)
 have e6 := key 6 (by omega) (by omega)
 cases s; cases t
 simp only [Sp.bword, nth] at e0 e1 e2 e3 e4 e5 e6
 simp only [Bts.mk.injEq]
 exact ⟨e0, e1, e2, e3, e4, e5, e6⟩
def Sp.sub (s t : Bts) : Prop := ∀ n : Int, 0 ≤ n → n < 448 → Sp.bhas s n = true → Sp.bhas t n = true
theorem Sp.sub_refl (s : Bts) : Sp.sub s s := fun _ _ _ h => h
theorem Sp.sub_trans {s t u : Bts} (h : Sp.sub s t) (k : Sp.sub t u) : Sp.sub s u := fun n h0 h1 h2 => k n h0 h1 (h n h0 h1 h2)
theorem Sp.cnt_lt {s t : Bts} (hs : Sp.okW s) (ht : Sp.okW t) (h : Sp.sub s t) (hne : ¬ t = s) : Sp.cnt s < Sp.cnt t := by
 unfold Sp.cnt
 refine Sp.filt_lt (fun k hk hp => h k (by omega) (by omega) hp) ?_
 refine Classical.byContradiction fun hno => hne (Sp.bits_ext ht hs fun n h0 h1 => ?_)
 cases e : Sp.bhas s n with
 | true => exact h n h0 h1 e
 | false =>
   cases e' : Sp.bhas t n with
   | false => rfl
   | true => exact absurd ⟨n.toNat, by omega, by rw [show ((n.toNat : Nat) : Int) = n by omega]; exact ⟨e, e'⟩⟩ hno
def Sp.inc (f : Bts → Bts) : Prop := ∀ s, Sp.okW s → Sp.okW (f s) ∧ Sp.sub s (f s)
theorem Sp.fixN_step {f : Bts → Bts} (hf : Sp.inc f) : ∀ (n : Nat) (s : Bts), Sp.okW s → 448 - Sp.cnt s ≤ n → Sp.fixN f (n + 1) s = Sp.fixN f n s
 | 0, s, hs, hn => by
   rw [Sp.fixN, Sp.fixN]
   split
   ·rfl
   ·rename_i hne
    have := Sp.cnt_lt hs (hf s hs).1 (hf s hs).2 hne
    have := Sp.cnt_le (f s)
    omega
 | n + 1, s, hs, hn => by
   rw [Sp.fixN]
   conv => rhs; rw [Sp.fixN]
   split
   ·rfl
   ·rename_i hne
    have := Sp.cnt_lt hs (hf s hs).1 (hf s hs).2 hne
    exact Sp.fixN_step hf n (f s) (hf s hs).1 (by omega)
theorem Sp.fixN_on {f : Bts → Bts} (hf : Sp.inc f) {s : Bts} (hs : Sp.okW s) (h : ¬ f s = s) : Sp.fixN f 449 s = Sp.fixN f 449 (f s) := by
 have h1 := Sp.cnt_lt hs (hf s hs).1 (hf s hs).2 h
 have e : Sp.fixN f 449 s = Sp.fixN f 448 (f s) := by
  show Sp.fixN f (448 + 1) s = _
  rw [Sp.fixN, if_neg h]
 rw [e, Sp.fixN_step hf 448 (f s) (hf s hs).1 (by omega)]
theorem Sp.fixN_at {f : Bts → Bts} {s : Bts} (h : f s = s) : Sp.fixN f 449 s = s := by
 show Sp.fixN f (448 + 1) s = _
 rw [Sp.fixN, if_pos h]
theorem Sp.put_inc {s : Bts} (hs : Sp.okW s) {n : Int} (h0 : 0 ≤ n) (h : n < 400) : Sp.okW (Sp.bput s n) ∧ Sp.sub s (Sp.bput s n) :=
 ⟨Sp.okW_put hs h0 (by omega), fun m g0 g1 hm => by rw [Sp.bhas_put hs h0 (by omega) g0 g1, hm, Bool.or_true]⟩
theorem Sp.g1s_inc {e : Edg} (he : Sp.okE e) {s : Bts} (hs : Sp.okW s) : Sp.okW (Sp.g1s s e) ∧ Sp.sub s (Sp.g1s s e) := by
 unfold Sp.g1s
 split
 ·exact Sp.put_inc hs he.1.1 he.1.2
 ·exact ⟨hs, Sp.sub_refl s⟩
theorem Sp.g2s_inc (al : Bts) {e : Edg} (he : Sp.okE e) {s : Bts} (hs : Sp.okW s) : Sp.okW (Sp.g2s al s e) ∧ Sp.sub s (Sp.g2s al s e) := by
 unfold Sp.g2s
 obtain ⟨h1, h2, h3, h4⟩ := he
 have k := Sp.put_inc hs h2.1 h2.2
 split
 ·split
  ·rename_i h5
   have k2 := Sp.put_inc k.1 (h4 h5).1 (h4 h5).2
   exact ⟨k2.1, Sp.sub_trans k.2 k2.2⟩
  ·exact k
 ·exact ⟨hs, Sp.sub_refl s⟩
theorem Sp.fold_inc {f : Bts → Edg → Bts} : ∀ {l : List Edg}, (∀ e ∈ l, ∀ s, Sp.okW s → Sp.okW (f s e) ∧ Sp.sub s (f s e)) → Sp.inc (fun s => l.foldl f s)
 | [], _ => fun s hs => ⟨hs, Sp.sub_refl s⟩
 | e :: l, h => fun s hs => by
   have h1 := h e (by simp) s hs
   have h2 := Sp.fold_inc (l := l) (fun e he => h e (by simp [he])) (f s e) h1.1
   exact ⟨h2.1, Sp.sub_trans h1.2 h2.2⟩
theorem Sp.g1_inc {l : List Edg} (h : ∀ e ∈ l, Sp.okE e) : Sp.inc (Sp.g1 l) := Sp.fold_inc fun e he s hs => Sp.g1s_inc (h e he) hs
theorem Sp.g2_inc (al : Bts) {l : List Edg} (h : ∀ e ∈ l, Sp.okE e) : Sp.inc (Sp.g2 al l) := Sp.fold_inc fun e he s hs => Sp.g2s_inc al (h e he) hs
theorem Sp.bts_cells {x : Bts} {i0 i1 i2 i3 i4 i5 i6 : Int} : ([x.b0, x.b1, x.b2, x.b3, x.b4, x.b5, x.b6] = [i0, i1, i2, i3, i4, i5, i6]) ↔ x = ⟨i0, i1, i2, i3, i4, i5, i6⟩ := by
 cases x; simp
theorem regular_Automaton_trim_3.main (y : Edg) (x0 x1 x2 x3 : Int) (x4 : ByteArray) (x5 x6 : List Tm) (x7 : Int) : regular_Automaton_trim_3.t y x0 x1 x2 x3 x4 x5 x6 x7 := by
 rintro b hb
 rw [Tm.eta] at hb
 have hb' : Sp.sameE ⟨x0, x1, x2, .mk x3 x4 x5, x6, x7⟩ y = b := hb
 rw [hb']
theorem regular_Automaton_trim_3.ok (W : World) : CtrOK Go.Proofs.Tryz.prog W 72 regular_Automaton_trim_3.C := by
 refine memOK (d := regular_Automaton_trim_3.d) (Γ := lookC [(73, regular_same.C)]) (lookC_ok (fun p hp => by
  simp only [List.mem_cons, List.not_mem_nil, or_false] at hp
  subst hp; exact regular_same.ok W)) (Λ := fun c_ s_ => match c_, s_ with | y, (x0, x1, x2, x3, x4, x5, x6, x7) => (fun _ => none)) (Λr := fun c_ s_ => match c_, s_ with | y, (x0, x1, x2, x3, x4, x5, x6, x7) => (fun _ => none)) ?_
 intro c s hp
 obtain ⟨x0, x1, x2, x3, x4, x5, x6, x7⟩ := s
 refine Eq.mpr ?_ (@regular_Automaton_trim_3.main c x0 x1 x2 x3 x4 x5 x6 x7)
 kernel_rfl
theorem slices_IndexFunc__t3.l0_ok (l : List Edg) (x0 x1 x2 x3 : Int) (x4 : ByteArray) (x5 x6 : List Tm) (x7 : Int) : slices_IndexFunc__t3.l0 l x0 x1 x2 x3 x4 x5 x6 x7 := by
 rintro l1 m r i y0 y1 y2 y3 y4 y5 y6 y7 ⟨e1, e2, h1, h2, h3, f0, f1, f2, f3, f4, f5, f6, f7⟩
 subst l1 m y0 y1 y2 y3 y4 y5 y6 y7
 generalize Sp.sameE (Edg.mk x0 x1 x2 (Tm.mk x3 x4 x5) x6 x7) = p
 refine ifD (fun h => ?_) fun h => ?_
 ·have hi : i.toNat < l.length := by omega
  have e := nth_drop (d := default) hi
  refine ⟨by omega, ?_⟩
  rintro b a0 a1 a2 a3 a4 a5 a6 a7 hb
  simp only [Prod.mk.injEq] at hb
  obtain ⟨hb', g0, g1, g2, g3, g4, g5, g6, g7⟩ := hb
  subst g0 g1 g2 g3 g4 g5 g6 g7
  rw [e]
  refine ifB_of (fun h4 => ?_) fun h4 => ?_
  ·rw [List.any_cons, Sp.idxE, hb', h4]; simp
  ·refine ⟨inR64 (by omega), ⟨by trivial, by trivial, by omega, by omega, h3, rfl, rfl, rfl, rfl, rfl, rfl, rfl, rfl⟩, by omega, ?_⟩
   rw [List.any_cons, Sp.idxE, hb', h4, show (i + 1).toNat = i.toNat + 1 by omega]
   simp only [Bool.false_or, Bool.false_eq_true, if_false]
   by_cases hc : (List.drop (i.toNat + 1) l).any p = true
   ·rw [if_pos hc, if_pos hc]
    have h5 := Sp.idxE_any p (List.drop (i.toNat + 1) l)
    rw [hc] at h5
    simp only [decide_eq_true_eq] at h5
    rw [if_neg (by omega)]
    have e9 : i + 1 + Sp.idxE p (List.drop (i.toNat + 1) l) = i + (Sp.idxE p (List.drop (i.toNat + 1) l) + 1) := by omega
    rw [e9]
   ·rw [if_neg hc, if_neg hc]
 ·rw [List.drop_eq_nil_of_le (by omega), show i = l.length by omega]
  simp
theorem slices_IndexFunc__t3.main (l : List Edg) (x0 x1 x2 x3 : Int) (x4 : ByteArray) (x5 x6 : List Tm) (x7 : Int) : slices_IndexFunc__t3.t l x0 x1 x2 x3 x4 x5 x6 x7 := by
 refine fun h => ⟨⟨rfl, rfl, by omega, by omega, h, rfl, rfl, rfl, rfl, rfl, rfl, rfl, rfl⟩, slices_IndexFunc__t3.l0_ok l x0 x1 x2 x3 x4 x5 x6 x7, fun r i a0 a1 a2 a3 a4 a5 a6 a7 hq => ?_, fun r i a0 a1 a2 a3 a4 a5 a6 a7 hq => ?_⟩
 ·generalize Sp.sameE (Edg.mk x0 x1 x2 (Tm.mk x3 x4 x5) x6 x7) = p at *
  have h5 := Sp.idxE_any p l
  have h6 := Sp.idxE_ge p l
  simp only [Int.toNat_zero, List.drop_zero] at hq
  split at hq
  ·cases hq
  ·rename_i h7
   simp only [LOut.brk.injEq, Prod.mk.injEq] at hq
   obtain ⟨_, _, g0, g1, g2, g3, g4, g5, g6, g7⟩ := hq
   subst g0 g1 g2 g3 g4 g5 g6 g7
   have h8 : l.any p = false := by simpa using h7
   rw [h8] at h5; simp only [decide_eq_false_iff_not] at h5
   rw [show Sp.idxE p l = -1 by omega]
 ·generalize Sp.sameE (Edg.mk x0 x1 x2 (Tm.mk x3 x4 x5) x6 x7) = p at *
  simp only [Int.toNat_zero, List.drop_zero] at hq
  split at hq
  ·simp only [LOut.ext.injEq, Prod.mk.injEq, true_and] at hq
   obtain ⟨g, _, g0, g1, g2, g3, g4, g5, g6, g7⟩ := hq
   subst g0 g1 g2 g3 g4 g5 g6 g7
   rw [← g, show (0 : Int) + Sp.idxE p l = Sp.idxE p l by omega]
  ·cases hq
theorem slices_IndexFunc__t3.ok (W : World) : CtrOK Go.Proofs.Tryz.prog W 54 slices_IndexFunc__t3.C := by
 refine memOK (d := slices_IndexFunc__t3.d) (Γ := lookC [(72, regular_Automaton_trim_3.C)]) (lookC_ok (fun p hp => by
  simp only [List.mem_cons, List.not_mem_nil, or_false] at hp
  subst hp; exact regular_Automaton_trim_3.ok W)) (Λ := fun c_ s_ => match c_, s_ with | l, (x0, x1, x2, x3, x4, x5, x6, x7) => (slices_IndexFunc__t3.Λ l x0 x1 x2 x3 x4 x5 x6 x7)) (Λr := fun c_ s_ => match c_, s_ with | l, (x0, x1, x2, x3, x4, x5, x6, x7) => (fun _ => none)) ?_
 intro c s hp
 obtain ⟨x0, x1, x2, x3, x4, x5, x6, x7⟩ := s
 refine Eq.mpr ?_ (@slices_IndexFunc__t3.main c x0 x1 x2 x3 x4 x5 x6 x7)
 kernel_rfl
theorem slices_ContainsFunc__t3.main (l : List Edg) (x0 x1 x2 x3 : Int) (x4 : ByteArray) (x5 x6 : List Tm) (x7 : Int) : slices_ContainsFunc__t3.t l x0 x1 x2 x3 x4 x5 x6 x7 := by
 rintro i a0 a1 a2 a3 a4 a5 a6 a7 hq
 simp only [Prod.mk.injEq] at hq
 obtain ⟨g, g0, g1, g2, g3, g4, g5, g6, g7⟩ := hq
 subst g g0 g1 g2 g3 g4 g5 g6 g7
 rw [Sp.idxE_any]
theorem slices_ContainsFunc__t3.ok (W : World) : CtrOK Go.Proofs.Tryz.prog W 24 slices_ContainsFunc__t3.C := by
 refine memOK (d := slices_ContainsFunc__t3.d) (Γ := lookC [(54, slices_IndexFunc__t3.C)]) (lookC_ok (fun p hp => by
  simp only [List.mem_cons, List.not_mem_nil, or_false] at hp
  subst hp; exact slices_IndexFunc__t3.ok W)) (Λ := fun c_ s_ => match c_, s_ with | l, (x0, x1, x2, x3, x4, x5, x6, x7) => (fun _ => none)) (Λr := fun c_ s_ => match c_, s_ with | l, (x0, x1, x2, x3, x4, x5, x6, x7) => (fun _ => none)) ?_
 intro c s hp
 obtain ⟨x0, x1, x2, x3, x4, x5, x6, x7⟩ := s
 refine Eq.mpr ?_ (@slices_ContainsFunc__t3.main c x0 x1 x2 x3 x4 x5 x6 x7)
 kernel_rfl
theorem regular_grow__1.l0_ok (n st : Int) (fin : List Int) (ed : List Edg) (ha : ∀ e ∈ ed, Sp.okE e) : regular_grow__1.l0 n st fin ed := by
 rintro n1 st1 fin1 ed1 s0 s1 s2 s3 s4 s5 s6 _ _ _ _ _ _ _ ⟨e1, e2, e3, e4, hw⟩
 subst n1 st1 fin1 ed1
 refine ⟨ha, ?_⟩
 rintro x a1 a2 a3 a4 hq
 simp only [Prod.mk.injEq] at hq
 obtain ⟨hx, g1, g2, g3, g4⟩ := hq
 subst g1 g2 g3 g4
 have hf := Sp.g1_inc ha
 simp only [Sp.bts_cells]
 refine ifB_of (fun h => ?_) fun h => ?_
 ·simp only [beq_iff_eq, Bool.not_eq_true', Bool.not_eq_eq_eq_not, Bool.not_true] at h
  simp at h
  rw [Sp.fixN_at (hx.trans h)]
 ·simp at h
  have hne : ¬ Sp.g1 ed ⟨s0, s1, s2, s3, s4, s5, s6⟩ = ⟨s0, s1, s2, s3, s4, s5, s6⟩ := by rw [hx]; exact h
  have hi := hf _ hw
  have hc := Sp.cnt_lt hw hi.1 hi.2 hne
  have hl := Sp.cnt_le (Sp.g1 ed ⟨s0, s1, s2, s3, s4, s5, s6⟩)
  rw [hx] at hc hl hi
  refine ⟨⟨by trivial, by trivial, by trivial, by trivial, hi.1⟩, by omega, ?_⟩
  rw [Sp.fixN_on hf hw hne, hx]
theorem regular_grow__1.main (s : Bts) (n st : Int) (fin : List Int) (ed : List Edg) (ha : (∀ e ∈ ed, Sp.okE e) ∧ Sp.okW s) : regular_grow__1.t s n st fin ed := by
 refine ⟨⟨rfl, rfl, rfl, rfl, ha.2⟩, regular_grow__1.l0_ok n st fin ed ha.1, ?_, ?_⟩
 ·intro _ _ _ _ _ _ _ _ _ _ _ _ _ _ _ _ _ _ hq
  cases hq
 ·intro _ _ _ _ _ _ _ _ _ _ _ _ _ _ _ _ _ _ hq
  simp only [LOut.ext.injEq, Prod.mk.injEq, true_and] at hq
  obtain ⟨g1, g2, g3, g4, _, _, _, _, _, _, _, r0, r1, r2, r3, r4, r5, r6⟩ := hq
  subst g1 g2 g3 g4 r0 r1 r2 r3 r4 r5 r6
  rfl
theorem regular_grow__1.ok (W : World) : CtrOK Go.Proofs.Tryz.prog W 66 regular_grow__1.C := by
 refine memOK (d := regular_grow__1.d) (Γ := lookC [(67, regular_Automaton_trim_1.C)]) (lookC_ok (fun p hp => by
  simp only [List.mem_cons, List.not_mem_nil, or_false] at hp
  subst hp; exact regular_Automaton_trim_1.ok W)) (Λ := fun c_ s_ => match c_, s_ with | s, (n, st, fin, ed) => (regular_grow__1.Λ s n st fin ed)) (Λr := fun c_ s_ => match c_, s_ with | s, (n, st, fin, ed) => (fun _ => none)) ?_
 intro c s hp
 obtain ⟨n, st, fin, ed⟩ := s
 refine Eq.mpr ?_ (@regular_grow__1.main c n st fin ed hp)
 kernel_rfl
end Go.AL
namespace Go.AL
set_option linter.unusedVariables false
def regular_grow__2.d : LD := ({ cs := [0], cts := [.nm 8], pts := [(1, .fn 70 [] [.loc 0 0, .loc 1 0])], vs := [], os := [(0, .plain, [none, none, none, none]), (1, .plain, [none, none, none, none, none, none, none])], vts := [.int .i64, .int .i64, .lst (.int .i64), .lst (.nm 6), .int .u64, .int .u64, .int .u64, .int .u64, .int .u64, .int .u64, .int .u64], own := [false, false, false, false, false, false, false, false, false, false, false], ro := [0, 1], nx := 2 } : LD)
def regular_grow__2.L0 : LD := { cs := [], cts := [], pts := [(1, (.fn 70 [] [(.loc 0 0), (.loc 1 0)])), (2, (.loc 13 0)), (4, (.loc 14 0))], vs := [], os := [(0, .plain, [none, none, none, none]), (1, .plain, [none, none, none, none, none, none, none]), (13, .plain, [none, none, none, none, none, none, none]), (14, .plain, [none, none, none, none, none, none, none])], vts := [.int .i64, .int .i64, .lst (.int .i64), .lst (.nm 6), .int .u64, .int .u64, .int .u64, .int .u64, .int .u64, .int .u64, .int .u64, .int .u64, .int .u64, .int .u64, .int .u64, .int .u64, .int .u64, .int .u64, .int .u64, .int .u64, .int .u64, .int .u64, .int .u64, .int .u64, .int .u64], own := [false, false, false, false, false, false, false, false, false, false, false, false, false, false, false, false, false, false, false, false, false, false, false, false, false], ro := [0, 1, 2, 4], nx := 100 }
def regular_grow__2.Λ (s : Bts) (n : Int) (st : Int) (fin : (List Int)) (ed : (List Edg)) (w0 : Int) (w1 : Int) (w2 : Int) (w3 : Int) (w4 : Int) (w5 : Int) (w6 : Int) : Nat → Option (Loop (ElT [.bool])) := fun id =>
 if id = 0 then some (mkLoop regular_grow__2.L0
  (fun (c_ : Unit) (s_ : Int × Int × (List Int) × (List Edg) × Int × Int × Int × Int × Int × Int × Int × Int × Int × Int × Int × Int × Int × Int × Int × Int × Int × Int × Int × Int × Int) => match c_, s_ with | (), (n1, st1, fin1, ed1, v0, v1, v2, v3, v4, v5, v6, s0, s1, s2, s3, s4, s5, s6, r0, r1, r2, r3, r4, r5, r6) => n1 = n ∧ st1 = st ∧ fin1 = fin ∧ ed1 = ed ∧ v0 = w0 ∧ v1 = w1 ∧ v2 = w2 ∧ v3 = w3 ∧ v4 = w4 ∧ v5 = w5 ∧ v6 = w6 ∧ Sp.okW ⟨s0, s1, s2, s3, s4, s5, s6⟩)
  (fun (c_ : Unit) (s_ : Int × Int × (List Int) × (List Edg) × Int × Int × Int × Int × Int × Int × Int × Int × Int × Int × Int × Int × Int × Int × Int × Int × Int × Int × Int × Int × Int) => match c_, s_ with | (), (n1, st1, fin1, ed1, v0, v1, v2, v3, v4, v5, v6, s0, s1, s2, s3, s4, s5, s6, r0, r1, r2, r3, r4, r5, r6) => 448 - Sp.cnt ⟨s0, s1, s2, s3, s4, s5, s6⟩)
  (fun (c_ : Unit) (s_ : Int × Int × (List Int) × (List Edg) × Int × Int × Int × Int × Int × Int × Int × Int × Int × Int × Int × Int × Int × Int × Int × Int × Int × Int × Int × Int × Int) => match c_, s_ with | (), (n1, st1, fin1, ed1, v0, v1, v2, v3, v4, v5, v6, s0, s1, s2, s3, s4, s5, s6, r0, r1, r2, r3, r4, r5, r6) => .ext 9999 (n1, st1, fin1, ed1, v0, v1, v2, v3, v4, v5, v6, (Sp.fixN (Sp.g2 ⟨w0, w1, w2, w3, w4, w5, w6⟩ ed1) 449 ⟨s0, s1, s2, s3, s4, s5, s6⟩).b0, (Sp.fixN (Sp.g2 ⟨w0, w1, w2, w3, w4, w5, w6⟩ ed1) 449 ⟨s0, s1, s2, s3, s4, s5, s6⟩).b1, (Sp.fixN (Sp.g2 ⟨w0, w1, w2, w3, w4, w5, w6⟩ ed1) 449 ⟨s0, s1, s2, s3, s4, s5, s6⟩).b2, (Sp.fixN (Sp.g2 ⟨w0, w1, w2, w3, w4, w5, w6⟩ ed1) 449 ⟨s0, s1, s2, s3, s4, s5, s6⟩).b3, (Sp.fixN (Sp.g2 ⟨w0, w1, w2, w3, w4, w5, w6⟩ ed1) 449 ⟨s0, s1, s2, s3, s4, s5, s6⟩).b4, (Sp.fixN (Sp.g2 ⟨w0, w1, w2, w3, w4, w5, w6⟩ ed1) 449 ⟨s0, s1, s2, s3, s4, s5, s6⟩).b5, (Sp.fixN (Sp.g2 ⟨w0, w1, w2, w3, w4, w5, w6⟩ ed1) 449 ⟨s0, s1, s2, s3, s4, s5, s6⟩).b6, (Sp.fixN (Sp.g2 ⟨w0, w1, w2, w3, w4, w5, w6⟩ ed1) 449 ⟨s0, s1, s2, s3, s4, s5, s6⟩).b0, (Sp.fixN (Sp.g2 ⟨w0, w1, w2, w3, w4, w5, w6⟩ ed1) 449 ⟨s0, s1, s2, s3, s4, s5, s6⟩).b1, (Sp.fixN (Sp.g2 ⟨w0, w1, w2, w3, w4, w5, w6⟩ ed1) 449 ⟨s0, s1, s2, s3, s4, s5, s6⟩).b2, (Sp.fixN (Sp.g2 ⟨w0, w1, w2, w3, w4, w5, w6⟩ ed1) 449 ⟨s0, s1, s2, s3, s4, s5, s6⟩).b3, (Sp.fixN (Sp.g2 ⟨w0, w1, w2, w3, w4, w5, w6⟩ ed1) 449 ⟨s0, s1, s2, s3, s4, s5, s6⟩).b4, (Sp.fixN (Sp.g2 ⟨w0, w1, w2, w3, w4, w5, w6⟩ ed1) 449 ⟨s0, s1, s2, s3, s4, s5, s6⟩).b5, (Sp.fixN (Sp.g2 ⟨w0, w1, w2, w3, w4, w5, w6⟩ ed1) 449 ⟨s0, s1, s2, s3, s4, s5, s6⟩).b6)) [9999] false) else
 none
def regular_grow__2.C : Ctr := memCtr regular_grow__2.d [.nm 8] (some (fun (c_ : ElT [.nm 8]) (s_ : ElT [.int .i64, .int .i64, .lst (.int .i64), .lst (.nm 6), .int .u64, .int .u64, .int .u64, .int .u64, .int .u64, .int .u64, .int .u64]) => match c_, s_ with | s, (n, st, fin, ed, w0, w1, w2, w3, w4, w5, w6) => (∀ e ∈ ed, Sp.okE e) ∧ Sp.okW s)) (fun (c_ : ElT [.nm 8]) (s_ : ElT [.int .i64, .int .i64, .lst (.int .i64), .lst (.nm 6), .int .u64, .int .u64, .int .u64, .int .u64, .int .u64, .int .u64, .int .u64]) => match c_, s_ with | s, (n, st, fin, ed, w0, w1, w2, w3, w4, w5, w6) => ((Sp.fixN (Sp.g2 ⟨w0, w1, w2, w3, w4, w5, w6⟩ ed) 449 s, (n, st, fin, ed, w0, w1, w2, w3, w4, w5, w6))))
end Go.AL
namespace Go.AL
set_option linter.unusedVariables false
set_option maxRecDepth 10000
def regular_grow__2.l0 (n : Int) (st : Int) (fin : (List Int)) (ed : (List Edg)) (w0 : Int) (w1 : Int) (w2 : Int) (w3 : Int) (w4 : Int) (w5 : Int) (w6 : Int) : Prop :=
 ∀ i i1 : Int, ∀ l : List Int, ∀ l1 : List Edg, ∀ i2 i3 i4 i5 i6 i7 i8 i9 i10 i11 i12 i13 i14 i15 : Int, Int→Int→Int→Int→Int→Int→Int→i=n∧i1=st∧l=fin∧l1=ed∧i2=w0∧i3=w1∧i4=w2∧i5=w3∧i6=w4∧i7=w5∧i8=w6∧Sp.okW (Bts.mk i9 i10 i11 i12 i13 i14 i15)→(∀ x : Edg, Membership.mem l1 x→Sp.okE x)∧∀ x : Bts, ∀ i16 i17 : Int, ∀ l2 : List Int, ∀ l3 : List Edg, ∀ i18 i19 i20 i21 i22 i23 i24 : Int, (Sp.g2 (Bts.mk i2 i3 i4 i5 i6 i7 i8) l1 (Bts.mk i9 i10 i11 i12 i13 i14 i15), i, i1, l, l1, i2, i3, i4, i5, i6, i7, i8)=(x, i16, i17, l2, l3, i18, i19, i20, i21, i22, i23, i24)→ifB (!(BEq.beq false (decide (Bts.b0 x :: Bts.b1 x :: Bts.b2 x :: Bts.b3 x :: Bts.b4 x :: Bts.b5 x :: Bts.b6 x :: ([] : List Int)=i9 :: i10 :: i11 :: i12 :: i13 :: i14 :: i15 :: ([] : List Int))))) ((LOut.ext 9999 (i, i1, l, l1, i2, i3, i4, i5, i6, i7, i8, Bts.b0 (Sp.fixN (Sp.g2 (Bts.mk w0 w1 w2 w3 w4 w5 w6) l1) 449 (Bts.mk i9 i10 i11 i12 i13 i14 i15)), Bts.b1 (Sp.fixN (Sp.g2 (Bts.mk w0 w1 w2 w3 w4 w5 w6) l1) 449 (Bts.mk i9 i10 i11 i12 i13 i14 i15)), Bts.b2 (Sp.fixN (Sp.g2 (Bts.mk w0 w1 w2 w3 w4 w5 w6) l1) 449 (Bts.mk i9 i10 i11 i12 i13 i14 i15)), Bts.b3 (Sp.fixN (Sp.g2 (Bts.mk w0 w1 w2 w3 w4 w5 w6) l1) 449 (Bts.mk i9 i10 i11 i12 i13 i14 i15)), Bts.b4 (Sp.fixN (Sp.g2 (Bts.mk w0 w1 w2 w3 w4 w5 w6) l1) 449 (Bts.mk i9 i10 i11 i12 i13 i14 i15)), Bts.b5 (Sp.fixN (Sp.g2 (Bts.mk w0 w1 w2 w3 w4 w5 w6) l1) 449 (Bts.mk i9 i10 i11 i12 i13 i14 i15)), Bts.b6 (Sp.fixN (Sp.g2 (Bts.mk w0 w1 w2 w3 w4 w5 w6) l1) 449 (Bts.mk i9 i10 i11 i12 i13 i14 i15)), Bts.b0 (Sp.fixN (Sp.g2 (Bts.mk w0 w1 w2 w3 w4 w5 w6) l1) 449 (Bts.mk i9 i10 i11 i12 i13 i14 i15)), Bts.b1 (Sp.fixN (Sp.g2 (Bts.mk w0 w1 w2 w3 w4 w5 w6) l1) 449 (Bts.mk i9 i10 i11 i12 i13 i14 i15)), Bts.b2 (Sp.fixN (Sp.g2 (Bts.mk w0 w1 w2 w3 w4 w5 w6) l1) 449 (Bts.mk i9 i10 i11 i12 i13 i14 i15)), Bts.b3 (Sp.fixN (Sp.g2 (Bts.mk w0 w1 w2 w3 w4 w5 w6) l1) 449 (Bts.mk i9 i10 i11 i12 i13 i14 i15)), Bts.b4 (Sp.fixN (Sp.g2 (Bts.mk w0 w1 w2 w3 w4 w5 w6) l1) 449 (Bts.mk i9 i10 i11 i12 i13 i14 i15)), Bts.b5 (Sp.fixN (Sp.g2 (Bts.mk w0 w1 w2 w3 w4 w5 w6) l1) 449 (Bts.mk i9 i10 i11 i12 i13 i14 i15)), Bts.b6 (Sp.fixN (Sp.g2 (Bts.mk w0 w1 w2 w3 w4 w5 w6) l1) 449 (Bts.mk i9 i10 i11 i12 i13 i14 i15))) : LOut _ Bool)=LOut.ext 9999 (i16, i17, l2, l3, i18, i19, i20, i21, i22, i23, i24, i9, i10, i11, i12, i13, i14, i15, i9, i10, i11, i12, i13, i14, i15)) ((i16=n∧i17=st∧l2=fin∧l3=ed∧i18=w0∧i19=w1∧i20=w2∧i21=w3∧i22=w4∧i23=w5∧i24=w6∧Sp.okW x)∧448 - Sp.cnt x < 448 - Sp.cnt (Bts.mk i9 i10 i11 i12 i13 i14 i15)∧(LOut.ext 9999 (i16, i17, l2, l3, i18, i19, i20, i21, i22, i23, i24, Bts.b0 (Sp.fixN (Sp.g2 (Bts.mk w0 w1 w2 w3 w4 w5 w6) l3) 449 x), Bts.b1 (Sp.fixN (Sp.g2 (Bts.mk w0 w1 w2 w3 w4 w5 w6) l3) 449 x), Bts.b2 (Sp.fixN (Sp.g2 (Bts.mk w0 w1 w2 w3 w4 w5 w6) l3) 449 x), Bts.b3 (Sp.fixN (Sp.g2 (Bts.mk w0 w1 w2 w3 w4 w5 w6) l3) 449 x), Bts.b4 (Sp.fixN (Sp.g2 (Bts.mk w0 w1 w2 w3 w4 w5 w6) l3) 449 x), Bts.b5 (Sp.fixN (Sp.g2 (Bts.mk w0 w1 w2 w3 w4 w5 w6) l3) 449 x), Bts.b6 (Sp.fixN (Sp.g2 (Bts.mk w0 w1 w2 w3 w4 w5 w6) l3) 449 x), Bts.b0 (Sp.fixN (Sp.g2 (Bts.mk w0 w1 w2 w3 w4 w5 w6) l3) 449 x), Bts.b1 (Sp.fixN (Sp.g2 (Bts.mk w0 w1 w2 w3 w4 w5 w6) l3) 449 x), Bts.b2 (Sp.fixN (Sp.g2 (Bts.mk w0 w1 w2 w3 w4 w5 w6) l3) 449 x), Bts.b3 (Sp.fixN (Sp.g2 (Bts.mk w0 w1 w2 w3 w4 w5 w6) l3) 449 x), Bts.b4 (Sp.fixN (Sp.g2 (Bts.mk w0 w1 w2 w3 w4 w5 w6) l3) 449 x), Bts.b5 (Sp.fixN (Sp.g2 (Bts.mk w0 w1 w2 w3 w4 w5 w6) l3) 449 x), Bts.b6 (Sp.fixN (Sp.g2 (Bts.mk w0 w1 w2 w3 w4 w5 w6) l3) 449 x)) : LOut _ Bool)=LOut.ext 9999 (i, i1, l, l1, i2, i3, i4, i5, i6, i7, i8, Bts.b0 (Sp.fixN (Sp.g2 (Bts.mk w0 w1 w2 w3 w4 w5 w6) l1) 449 (Bts.mk i9 i10 i11 i12 i13 i14 i15)), Bts.b1 (Sp.fixN (Sp.g2 (Bts.mk w0 w1 w2 w3 w4 w5 w6) l1) 449 (Bts.mk i9 i10 i11 i12 i13 i14 i15)), Bts.b2 (Sp.fixN (Sp.g2 (Bts.mk w0 w1 w2 w3 w4 w5 w6) l1) 449 (Bts.mk i9 i10 i11 i12 i13 i14 i15)), Bts.b3 (Sp.fixN (Sp.g2 (Bts.mk w0 w1 w2 w3 w4 w5 w6) l1) 449 (Bts.mk i9 i10 i11 i12 i13 i14 i15)), Bts.b4 (Sp.fixN (Sp.g2 (Bts.mk w0 w1 w2 w3 w4 w5 w6) l1) 449 (Bts.mk i9 i10 i11 i12 i13 i14 i15)), Bts.b5 (Sp.fixN (Sp.g2 (Bts.mk w0 w1 w2 w3 w4 w5 w6) l1) 449 (Bts.mk i9 i10 i11 i12 i13 i14 i15)), Bts.b6 (Sp.fixN (Sp.g2 (Bts.mk w0 w1 w2 w3 w4 w5 w6) l1) 449 (Bts.mk i9 i10 i11 i12 i13 i14 i15)), Bts.b0 (Sp.fixN (Sp.g2 (Bts.mk w0 w1 w2 w3 w4 w5 w6) l1) 449 (Bts.mk i9 i10 i11 i12 i13 i14 i15)), Bts.b1 (Sp.fixN (Sp.g2 (Bts.mk w0 w1 w2 w3 w4 w5 w6) l1) 449 (Bts.mk i9 i10 i11 i12 i13 i14 i15)), Bts.b2 (Sp.fixN (Sp.g2 (Bts.mk w0 w1 w2 w3 w4 w5 w6) l1) 449 (Bts.mk i9 i10 i11 i12 i13 i14 i15)), Bts.b3 (Sp.fixN (Sp.g2 (Bts.mk w0 w1 w2 w3 w4 w5 w6) l1) 449 (Bts.mk i9 i10 i11 i12 i13 i14 i15)), Bts.b4 (Sp.fixN (Sp.g2 (Bts.mk w0 w1 w2 w3 w4 w5 w6) l1) 449 (Bts.mk i9 i10 i11 i12 i13 i14 i15)), Bts.b5 (Sp.fixN (Sp.g2 (Bts.mk w0 w1 w2 w3 w4 w5 w6) l1) 449 (Bts.mk i9 i10 i11 i12 i13 i14 i15)), Bts.b6 (Sp.fixN (Sp.g2 (Bts.mk w0 w1 w2 w3 w4 w5 w6) l1) 449 (Bts.mk i9 i10 i11 i12 i13 i14 i15))))
def regular_grow__2.t (s : Bts) (n : Int) (st : Int) (fin : (List Int)) (ed : (List Edg)) (w0 : Int) (w1 : Int) (w2 : Int) (w3 : Int) (w4 : Int) (w5 : Int) (w6 : Int) : Prop :=
 (n=n∧st=st∧fin=fin∧ed=ed∧w0=w0∧w1=w1∧w2=w2∧w3=w3∧w4=w4∧w5=w5∧w6=w6∧Sp.okW s)∧regular_grow__2.l0 n st fin ed w0 w1 w2 w3 w4 w5 w6∧(∀ i i1 : Int, ∀ l : List Int, ∀ l1 : List Edg, ∀ i2 i3 i4 i5 i6 i7 i8 i9 i10 i11 i12 i13 i14 i15 i16 i17 i18 i19 i20 i21 i22 : Int, (LOut.ext 9999 (n, st, fin, ed, w0, w1, w2, w3, w4, w5, w6, Bts.b0 (Sp.fixN (Sp.g2 (Bts.mk w0 w1 w2 w3 w4 w5 w6) ed) 449 s), Bts.b1 (Sp.fixN (Sp.g2 (Bts.mk w0 w1 w2 w3 w4 w5 w6) ed) 449 s), Bts.b2 (Sp.fixN (Sp.g2 (Bts.mk w0 w1 w2 w3 w4 w5 w6) ed) 449 s), Bts.b3 (Sp.fixN (Sp.g2 (Bts.mk w0 w1 w2 w3 w4 w5 w6) ed) 449 s), Bts.b4 (Sp.fixN (Sp.g2 (Bts.mk w0 w1 w2 w3 w4 w5 w6) ed) 449 s), Bts.b5 (Sp.fixN (Sp.g2 (Bts.mk w0 w1 w2 w3 w4 w5 w6) ed) 449 s), Bts.b6 (Sp.fixN (Sp.g2 (Bts.mk w0 w1 w2 w3 w4 w5 w6) ed) 449 s), Bts.b0 (Sp.fixN (Sp.g2 (Bts.mk w0 w1 w2 w3 w4 w5 w6) ed) 449 s), Bts.b1 (Sp.fixN (Sp.g2 (Bts.mk w0 w1 w2 w3 w4 w5 w6) ed) 449 s), Bts.b2 (Sp.fixN (Sp.g2 (Bts.mk w0 w1 w2 w3 w4 w5 w6) ed) 449 s), Bts.b3 (Sp.fixN (Sp.g2 (Bts.mk w0 w1 w2 w3 w4 w5 w6) ed) 449 s), Bts.b4 (Sp.fixN (Sp.g2 (Bts.mk w0 w1 w2 w3 w4 w5 w6) ed) 449 s), Bts.b5 (Sp.fixN (Sp.g2 (Bts.mk w0 w1 w2 w3 w4 w5 w6) ed) 449 s), Bts.b6 (Sp.fixN (Sp.g2 (Bts.mk w0 w1 w2 w3 w4 w5 w6) ed) 449 s)) : LOut _ Bool)=LOut.brk (i, i1, l, l1, i2, i3, i4, i5, i6, i7, i8, i9, i10, i11, i12, i13, i14, i15, i16, i17, i18, i19, i20, i21, i22)→(Sp.fixN (Sp.g2 (Bts.mk w0 w1 w2 w3 w4 w5 w6) ed) 449 s, n, st, fin, ed, w0, w1, w2, w3, w4, w5, w6)=(Bts.mk i16 i17 i18 i19 i20 i21 i22, i, i1, l, l1, i2, i3, i4, i5, i6, i7, i8))∧∀ i i1 : Int, ∀ l : List Int, ∀ l1 : List Edg, ∀ i2 i3 i4 i5 i6 i7 i8 i9 i10 i11 i12 i13 i14 i15 i16 i17 i18 i19 i20 i21 i22 : Int, (LOut.ext 9999 (n, st, fin, ed, w0, w1, w2, w3, w4, w5, w6, Bts.b0 (Sp.fixN (Sp.g2 (Bts.mk w0 w1 w2 w3 w4 w5 w6) ed) 449 s), Bts.b1 (Sp.fixN (Sp.g2 (Bts.mk w0 w1 w2 w3 w4 w5 w6) ed) 449 s), Bts.b2 (Sp.fixN (Sp.g2 (Bts.mk w0 w1 w2 w3 w4 w5 w6) ed) 449 s), Bts.b3 (Sp.fixN (Sp.g2 (Bts.mk w0 w1 w2 w3 w4 w5 w6) ed) 449 s), Bts.b4 (Sp.fixN (Sp.g2 (Bts.mk w0 w1 w2 w3 w4 w5 w6) ed) 449 s), Bts.b5 (Sp.fixN (Sp.g2 (Bts.mk w0 w1 w2 w3 w4 w5 w6) ed) 449 s), Bts.b6 (Sp.fixN (Sp.g2 (Bts.mk w0 w1 w2 w3 w4 w5 w6) ed) 449 s), Bts.b0 (Sp.fixN (Sp.g2 (Bts.mk w0 w1 w2 w3 w4 w5 w6) ed) 449 s), Bts.b1 (Sp.fixN (Sp.g2 (Bts.mk w0 w1 w2 w3 w4 w5 w6) ed) 449 s), Bts.b2 (Sp.fixN (Sp.g2 (Bts.mk w0 w1 w2 w3 w4 w5 w6) ed) 449 s), Bts.b3 (Sp.fixN (Sp.g2 (Bts.mk w0 w1 w2 w3 w4 w5 w6) ed) 449 s), Bts.b4 (Sp.fixN (Sp.g2 (Bts.mk w0 w1 w2 w3 w4 w5 w6) ed) 449 s), Bts.b5 (Sp.fixN (Sp.g2 (Bts.mk w0 w1 w2 w3 w4 w5 w6) ed) 449 s), Bts.b6 (Sp.fixN (Sp.g2 (Bts.mk w0 w1 w2 w3 w4 w5 w6) ed) 449 s)) : LOut _ Bool)=LOut.ext 9999 (i, i1, l, l1, i2, i3, i4, i5, i6, i7, i8, i9, i10, i11, i12, i13, i14, i15, i16, i17, i18, i19, i20, i21, i22)→(Sp.fixN (Sp.g2 (Bts.mk w0 w1 w2 w3 w4 w5 w6) ed) 449 s, n, st, fin, ed, w0, w1, w2, w3, w4, w5, w6)=(Bts.mk i16 i17 i18 i19 i20 i21 i22, i, i1, l, l1, i2, i3, i4, i5, i6, i7, i8)
end Go.AL
namespace Go.AL
set_option linter.unusedVariables false
set_option linter.unusedSimpArgs false
set_option maxRecDepth 10000
attribute [local irreducible] wpF wpFX wpM wpFM
theorem regular_grow__2.l0_ok (n st : Int) (fin : List Int) (ed : List Edg) (w0 w1 w2 w3 w4 w5 w6 : Int) (ha : ∀ e ∈ ed, Sp.okE e) : regular_grow__2.l0 n st fin ed w0 w1 w2 w3 w4 w5 w6 := by
 rintro n1 st1 fin1 ed1 v0 v1 v2 v3 v4 v5 v6 s0 s1 s2 s3 s4 s5 s6 _ _ _ _ _ _ _ ⟨e1, e2, e3, e4, f0, f1, f2, f3, f4, f5, f6, hw⟩
 subst n1 st1 fin1 ed1 v0 v1 v2 v3 v4 v5 v6
 refine ⟨ha, ?_⟩
 rintro x a1 a2 a3 a4 c0 c1 c2 c3 c4 c5 c6 hq
 simp only [Prod.mk.injEq] at hq
 obtain ⟨hx, g1, g2, g3, g4, h0, h1, h2, h3, h4, h5, h6⟩ := hq
 subst g1 g2 g3 g4 h0 h1 h2 h3 h4 h5 h6
 have hf := Sp.g2_inc ⟨w0, w1, w2, w3, w4, w5, w6⟩ ha
 simp only [Sp.bts_cells]
 refine ifB_of (fun h => ?_) fun h => ?_
 ·simp only [beq_iff_eq, Bool.not_eq_true', Bool.not_eq_eq_eq_not, Bool.not_true] at h
  simp at h
  rw [Sp.fixN_at (hx.trans h)]
 ·simp at h
  have hne : ¬ Sp.g2 ⟨w0, w1, w2, w3, w4, w5, w6⟩ ed ⟨s0, s1, s2, s3, s4, s5, s6⟩ = ⟨s0, s1, s2, s3, s4, s5, s6⟩ := by rw [hx]; exact h
  have hi := hf _ hw
  have hc := Sp.cnt_lt hw hi.1 hi.2 hne
  have hl := Sp.cnt_le (Sp.g2 ⟨w0, w1, w2, w3, w4, w5, w6⟩ ed ⟨s0, s1, s2, s3, s4, s5, s6⟩)
  rw [hx] at hc hl hi
  refine ⟨⟨by trivial, by trivial, by trivial, by trivial, by trivial, by trivial, by trivial, by trivial, by trivial, by trivial, by trivial, hi.1⟩, by omega, ?_⟩
  rw [Sp.fixN_on hf hw hne, hx]
theorem regular_grow__2.main (s : Bts) (n st : Int) (fin : List Int) (ed : List Edg) (w0 w1 w2 w3 w4 w5 w6 : Int) (ha : (∀ e ∈ ed, Sp.okE e) ∧ Sp.okW s) : regular_grow__2.t s n st fin ed w0 w1 w2 w3 w4 w5 w6 := by
 refine ⟨⟨rfl, rfl, rfl, rfl, rfl, rfl, rfl, rfl, rfl, rfl, rfl, ha.2⟩, regular_grow__2.l0_ok n st fin ed w0 w1 w2 w3 w4 w5 w6 ha.1, ?_, ?_⟩
 ·intro _ _ _ _ _ _ _ _ _ _ _ _ _ _ _ _ _ _ _ _ _ _ _ _ _ hq
  cases hq
 ·intro _ _ _ _ _ _ _ _ _ _ _ _ _ _ _ _ _ _ _ _ _ _ _ _ _ hq
  simp only [LOut.ext.injEq, Prod.mk.injEq, true_and] at hq
  obtain ⟨g1, g2, g3, g4, h0, h1, h2, h3, h4, h5, h6, _, _, _, _, _, _, _, r0, r1, r2, r3, r4, r5, r6⟩ := hq
  subst g1 g2 g3 g4 h0 h1 h2 h3 h4 h5 h6 r0 r1 r2 r3 r4 r5 r6
  rfl
theorem regular_grow__2.ok (W : World) : CtrOK Go.Proofs.Tryz.prog W 66 regular_grow__2.C := by
 refine memOK (d := regular_grow__2.d) (Γ := lookC [(70, regular_Automaton_trim_2.C)]) (lookC_ok (fun p hp => by
  simp only [List.mem_cons, List.not_mem_nil, or_false] at hp
  subst hp; exact regular_Automaton_trim_2.ok W)) (Λ := fun c_ s_ => match c_, s_ with | s, (n, st, fin, ed, w0, w1, w2, w3, w4, w5, w6) => (regular_grow__2.Λ s n st fin ed w0 w1 w2 w3 w4 w5 w6)) (Λr := fun c_ s_ => match c_, s_ with | s, (n, st, fin, ed, w0, w1, w2, w3, w4, w5, w6) => (fun _ => none)) ?_
 intro c s hp
 obtain ⟨n, st, fin, ed, w0, w1, w2, w3, w4, w5, w6⟩ := s
 refine Eq.mpr ?_ (@regular_grow__2.main c n st fin ed w0 w1 w2 w3 w4 w5 w6 hp)
 kernel_rfl
end Go.AL
