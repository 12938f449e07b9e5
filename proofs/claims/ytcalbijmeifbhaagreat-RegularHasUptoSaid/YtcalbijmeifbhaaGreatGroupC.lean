/- Functions of the program: what they return, and that they do. -/
import Derived.Test.YtcalbijmeifbhaaGreatGroupB
import Derived.Test.YtcalbijmeifbhaaGreatProg
import Derived.KernelRfl
import Derived.Test.YtcalbijmeifbhaaGreatEvalC
import Derived.Test.YtcalbijmeifbhaaGreatHandB
set_option linter.unusedVariables false
set_option linter.unusedSimpArgs false
namespace Go.AL
set_option linter.unusedVariables false
end Go.AL
namespace Sp
open Go.AL
def bfin (l : List Int) (x : Bts) : Bts := l.foldl bput x
end Sp
namespace Go.AL
def regular_Automaton_finals.L0 : LD := { cs := [7, 8], cts := [.lst (.int .i64), .int .i64], pts := [(3, (.loc 2 0))], vs := [9], os := [(2, .plain, [none, none, none, none, none, none, none])], vts := [.int .i64, .int .u64, .int .u64, .int .u64, .int .u64, .int .u64, .int .u64, .int .u64], own := [false, false, false, false, false, false, false, false], ro := [0, 1, 2, 3, 6, 7, 8], nx := 100 }
def regular_Automaton_finals.Λ (a : Aut) : Nat → Option (Loop (ElT [.nm 8])) := fun id =>
 if id = 0 then some (mkLoop regular_Automaton_finals.L0
  (fun (c_ : (List Int) × Int) (s_ : Int × Int × Int × Int × Int × Int × Int × Int) => match c_, s_ with | (l, n), (i, c0, c1, c2, c3, c4, c5, c6) => l = a.final ∧ n = l.length ∧ 0 ≤ i ∧ i ≤ l.length ∧ l.length < 9223372036854775808)
  (fun (c_ : (List Int) × Int) (s_ : Int × Int × Int × Int × Int × Int × Int × Int) => match c_, s_ with | (l, n), (i, c0, c1, c2, c3, c4, c5, c6) => (l.length - i : Int).toNat)
  (fun (c_ : (List Int) × Int) (s_ : Int × Int × Int × Int × Int × Int × Int × Int) => match c_, s_ with | (l, n), (i, c0, c1, c2, c3, c4, c5, c6) => .brk ((l.length : Int), (Sp.bfin (l.drop i.toNat) ⟨c0, c1, c2, c3, c4, c5, c6⟩).b0, (Sp.bfin (l.drop i.toNat) ⟨c0, c1, c2, c3, c4, c5, c6⟩).b1, (Sp.bfin (l.drop i.toNat) ⟨c0, c1, c2, c3, c4, c5, c6⟩).b2, (Sp.bfin (l.drop i.toNat) ⟨c0, c1, c2, c3, c4, c5, c6⟩).b3, (Sp.bfin (l.drop i.toNat) ⟨c0, c1, c2, c3, c4, c5, c6⟩).b4, (Sp.bfin (l.drop i.toNat) ⟨c0, c1, c2, c3, c4, c5, c6⟩).b5, (Sp.bfin (l.drop i.toNat) ⟨c0, c1, c2, c3, c4, c5, c6⟩).b6)) [] false) else
 none
def regular_Automaton_finals.C : Ctr := pureCtr [.nm 7] [.nm 8] (some (fun (a : Aut) => ∀ f ∈ a.final, 0 ≤ f ∧ f < 400)) (fun (a : Aut) => (Sp.bfin a.final ⟨0, 0, 0, 0, 0, 0, 0⟩))
end Go.AL
namespace Go.AL
set_option linter.unusedVariables false
set_option maxRecDepth 10000
def regular_Automaton_finals.l0 (a : Aut) : Prop :=
 (∀ l : (List Int), (∀ i : Int, (∀ i1 : Int, (∀ i2 : Int, (∀ i3 : Int, (∀ i4 : Int, (∀ i5 : Int, (∀ i6 : Int, (∀ i7 : Int, (∀ i8 : Int, (((l=(Aut.final a))∧((i=(↑(List.length l) : Int))∧((0≤i1)∧((i1≤(↑(List.length l) : Int))∧((List.length l) < 9223372036854775808)))))→(ifB (decide (i1 < i)) (((0≤i1)∧(i1 < (↑(List.length l) : Int)))∧(((0≤(nth 0 l i1))∧((nth 0 l i1) < 400))∧(∀ i9 : Int, (∀ i10 : Int, (∀ i11 : Int, (∀ i12 : Int, (∀ i13 : Int, (∀ i14 : Int, (∀ i15 : Int, ((((), ((Bts.b0 (Sp.bput (Bts.mk i2 i3 i4 i5 i6 i7 i8) (nth 0 l i1))), ((Bts.b1 (Sp.bput (Bts.mk i2 i3 i4 i5 i6 i7 i8) (nth 0 l i1))), ((Bts.b2 (Sp.bput (Bts.mk i2 i3 i4 i5 i6 i7 i8) (nth 0 l i1))), ((Bts.b3 (Sp.bput (Bts.mk i2 i3 i4 i5 i6 i7 i8) (nth 0 l i1))), ((Bts.b4 (Sp.bput (Bts.mk i2 i3 i4 i5 i6 i7 i8) (nth 0 l i1))), ((Bts.b5 (Sp.bput (Bts.mk i2 i3 i4 i5 i6 i7 i8) (nth 0 l i1))), (Bts.b6 (Sp.bput (Bts.mk i2 i3 i4 i5 i6 i7 i8) (nth 0 l i1))))))))))=((), (i9, (i10, (i11, (i12, (i13, (i14, i15))))))))→((inR .i64 (i1 + 1))∧(((l=(Aut.final a))∧((i=(↑(List.length l) : Int))∧((0≤(i1 + 1))∧(((i1 + 1)≤(↑(List.length l) : Int))∧((List.length l) < 9223372036854775808)))))∧(((Int.toNat ((↑(List.length l) : Int) - (i1 + 1))) < (Int.toNat ((↑(List.length l) : Int) - i1)))∧(((LOut.brk ((↑(List.length l) : Int), ((Bts.b0 (Sp.bfin (List.drop (Int.toNat (i1 + 1)) l) (Bts.mk i9 i10 i11 i12 i13 i14 i15))), ((Bts.b1 (Sp.bfin (List.drop (Int.toNat (i1 + 1)) l) (Bts.mk i9 i10 i11 i12 i13 i14 i15))), ((Bts.b2 (Sp.bfin (List.drop (Int.toNat (i1 + 1)) l) (Bts.mk i9 i10 i11 i12 i13 i14 i15))), ((Bts.b3 (Sp.bfin (List.drop (Int.toNat (i1 + 1)) l) (Bts.mk i9 i10 i11 i12 i13 i14 i15))), ((Bts.b4 (Sp.bfin (List.drop (Int.toNat (i1 + 1)) l) (Bts.mk i9 i10 i11 i12 i13 i14 i15))), ((Bts.b5 (Sp.bfin (List.drop (Int.toNat (i1 + 1)) l) (Bts.mk i9 i10 i11 i12 i13 i14 i15))), (Bts.b6 (Sp.bfin (List.drop (Int.toNat (i1 + 1)) l) (Bts.mk i9 i10 i11 i12 i13 i14 i15))))))))))) : (LOut (Int × (Int × (Int × (Int × (Int × (Int × (Int × Int))))))) Bts))=(LOut.brk ((↑(List.length l) : Int), ((Bts.b0 (Sp.bfin (List.drop (Int.toNat i1) l) (Bts.mk i2 i3 i4 i5 i6 i7 i8))), ((Bts.b1 (Sp.bfin (List.drop (Int.toNat i1) l) (Bts.mk i2 i3 i4 i5 i6 i7 i8))), ((Bts.b2 (Sp.bfin (List.drop (Int.toNat i1) l) (Bts.mk i2 i3 i4 i5 i6 i7 i8))), ((Bts.b3 (Sp.bfin (List.drop (Int.toNat i1) l) (Bts.mk i2 i3 i4 i5 i6 i7 i8))), ((Bts.b4 (Sp.bfin (List.drop (Int.toNat i1) l) (Bts.mk i2 i3 i4 i5 i6 i7 i8))), ((Bts.b5 (Sp.bfin (List.drop (Int.toNat i1) l) (Bts.mk i2 i3 i4 i5 i6 i7 i8))), (Bts.b6 (Sp.bfin (List.drop (Int.toNat i1) l) (Bts.mk i2 i3 i4 i5 i6 i7 i8))))))))))))))))))))))))) (((LOut.brk ((↑(List.length l) : Int), ((Bts.b0 (Sp.bfin (List.drop (Int.toNat i1) l) (Bts.mk i2 i3 i4 i5 i6 i7 i8))), ((Bts.b1 (Sp.bfin (List.drop (Int.toNat i1) l) (Bts.mk i2 i3 i4 i5 i6 i7 i8))), ((Bts.b2 (Sp.bfin (List.drop (Int.toNat i1) l) (Bts.mk i2 i3 i4 i5 i6 i7 i8))), ((Bts.b3 (Sp.bfin (List.drop (Int.toNat i1) l) (Bts.mk i2 i3 i4 i5 i6 i7 i8))), ((Bts.b4 (Sp.bfin (List.drop (Int.toNat i1) l) (Bts.mk i2 i3 i4 i5 i6 i7 i8))), ((Bts.b5 (Sp.bfin (List.drop (Int.toNat i1) l) (Bts.mk i2 i3 i4 i5 i6 i7 i8))), (Bts.b6 (Sp.bfin (List.drop (Int.toNat i1) l) (Bts.mk i2 i3 i4 i5 i6 i7 i8))))))))))) : (LOut (Int × (Int × (Int × (Int × (Int × (Int × (Int × Int))))))) Bts))=(LOut.brk (i1, (i2, (i3, (i4, (i5, (i6, (i7, i8)))))))))))))))))))))
def regular_Automaton_finals.t (a : Aut) : Prop :=
 (((List.length (Aut.final a)) < 9223372036854775808)→((((Aut.final a)=(Aut.final a))∧(((↑(List.length (Aut.final a)) : Int)=(↑(List.length (Aut.final a)) : Int))∧(((0 : Int)≤0)∧((0≤(↑(List.length (Aut.final a)) : Int))∧((List.length (Aut.final a)) < 9223372036854775808)))))∧((regular_Automaton_finals.l0 a)∧(∀ i : Int, (∀ i1 : Int, (∀ i2 : Int, (∀ i3 : Int, (∀ i4 : Int, (∀ i5 : Int, (∀ i6 : Int, (∀ i7 : Int, ((((LOut.brk ((↑(List.length (Aut.final a)) : Int), ((Bts.b0 (Sp.bfin (List.drop (Int.toNat 0) (Aut.final a)) (Bts.mk 0 0 0 0 0 0 0))), ((Bts.b1 (Sp.bfin (List.drop (Int.toNat 0) (Aut.final a)) (Bts.mk 0 0 0 0 0 0 0))), ((Bts.b2 (Sp.bfin (List.drop (Int.toNat 0) (Aut.final a)) (Bts.mk 0 0 0 0 0 0 0))), ((Bts.b3 (Sp.bfin (List.drop (Int.toNat 0) (Aut.final a)) (Bts.mk 0 0 0 0 0 0 0))), ((Bts.b4 (Sp.bfin (List.drop (Int.toNat 0) (Aut.final a)) (Bts.mk 0 0 0 0 0 0 0))), ((Bts.b5 (Sp.bfin (List.drop (Int.toNat 0) (Aut.final a)) (Bts.mk 0 0 0 0 0 0 0))), (Bts.b6 (Sp.bfin (List.drop (Int.toNat 0) (Aut.final a)) (Bts.mk 0 0 0 0 0 0 0))))))))))) : (LOut (Int × (Int × (Int × (Int × (Int × (Int × (Int × Int))))))) Bts))=(LOut.brk (i, (i1, (i2, (i3, (i4, (i5, (i6, i7)))))))))→((Sp.bfin (Aut.final a) (Bts.mk 0 0 0 0 0 0 0))=(Bts.mk i1 i2 i3 i4 i5 i6 i7))))))))))))))
end Go.AL
namespace Go.AL
set_option linter.unusedVariables false
set_option linter.unusedSimpArgs false
set_option maxRecDepth 10000
attribute [local irreducible] wpF wpFX wpM wpFM
theorem regular_Automaton_finals.l0_ok (a : Aut) (ha : ∀ f ∈ a.final, 0 ≤ f ∧ f < 400) : regular_Automaton_finals.l0 a := by
 rintro l n i c0 c1 c2 c3 c4 c5 c6 ⟨e1, e2, h1, h2, h3⟩
 subst l n
 refine ifD (fun h => ?_) fun h => ?_
 ·have hi : i.toNat < a.final.length := by omega
  have e1 : (i + 1).toNat = i.toNat + 1 := by omega
  refine ⟨by omega, ha _ (nth_mem hi), ?_⟩
  rintro d0 d1 d2 d3 d4 d5 d6 hq
  simp only [Prod.mk.injEq, true_and] at hq
  obtain ⟨g0, g1, g2, g3, g4, g5, g6⟩ := hq
  subst g0 g1 g2 g3 g4 g5 g6
  refine ⟨inR64 (by omega), ⟨rfl, rfl, by omega, by omega, h3⟩, by omega, ?_⟩
  rw [nth_drop (d := (0 : Int)) hi, e1]
  rfl
 ·rw [List.drop_eq_nil_of_le (by omega), show i = a.final.length by omega]
  rfl
theorem regular_Automaton_finals.main (a : Aut) (ha : ∀ f ∈ a.final, 0 ≤ f ∧ f < 400) : regular_Automaton_finals.t a := by
 refine fun hs => ⟨⟨rfl, rfl, by omega, by omega, hs⟩, regular_Automaton_finals.l0_ok a ha, fun i c0 c1 c2 c3 c4 c5 c6 hq => ?_⟩
 simp only [LOut.brk.injEq, Prod.mk.injEq, Int.toNat_zero, List.drop_zero] at hq
 obtain ⟨_, g0, g1, g2, g3, g4, g5, g6⟩ := hq
 subst g0 g1 g2 g3 g4 g5 g6
 rfl
theorem regular_Automaton_finals.ok (W : World) : CtrOK Go.Proofs.Tryz.prog W 45 regular_Automaton_finals.C := by
 refine funOK (Γ := lookC [(69, regular_set_put.C)]) (lookC_ok (fun p hp => by
  simp only [List.mem_cons, List.not_mem_nil, or_false] at hp
  subst hp; exact regular_set_put.ok W)) (Λ := fun a_ => match a_ with | a => (regular_Automaton_finals.Λ a)) (Λr := fun a_ => match a_ with | a => (fun _ => none)) ?_
 intro a ha
 refine Eq.mpr ?_ (@regular_Automaton_finals.main a ha)
 kernel_rfl
end Go.AL
namespace Go.AL
set_option linter.unusedVariables false
end Go.AL
namespace Sp
open Go.AL
def bz : Bts := ⟨0, 0, 0, 0, 0, 0, 0⟩
def bstep (f : Edg → Bool) (s : Bts) : List Edg → Bts → Bts
 | [], o => o
 | e :: l, o => bstep f s l (if bhas s e.dst && f e then bput o e.src else o)
def binto (ed : List Edg) (s : Bts) (f : Edg → Bool) : Bts := bstep f s ed bz
def inn1 (x : Bts) (e : Edg) : Bool := decide (e.kind = 5) && bhas x e.inner
mutual
def baccT (a : Aut) : Tm → Bts → Bts
 | .mk k x ks, s => if k = 4 then binto a.edges s (inn1 (baccL a ks)) else binto a.edges s (fun e => rreads e (.mk k x ks))
def baccL (a : Aut) : List Tm → Bts
 | [] => bfin a.final bz
 | t :: l => baccT a t (baccL a l)
end
def okE (e : Edg) : Prop := (0 ≤ e.src ∧ e.src < 400) ∧ (0 ≤ e.dst ∧ e.dst < 400) ∧ (1 ≤ e.kind ∧ e.kind ≤ 5) ∧ (e.kind = 5 → 0 ≤ e.inner ∧ e.inner < 400)
end Sp
namespace Go.AL
def regular_Automaton_accepting_1.d : LD := ({ cs := [0], cts := [.nm 6], pts := [(1, .loc 0 0)], vs := [], os := [(0, .plain, [none, none, none, none, none, none, none])], vts := [.int .u64, .int .u64, .int .u64, .int .u64, .int .u64, .int .u64, .int .u64], own := [false, false, false, false, false, false, false], ro := [0, 1], nx := 1 } : LD)
def regular_Automaton_accepting_1.C : Ctr := memCtr regular_Automaton_accepting_1.d [.bool] (some (fun (c_ : ElT [.nm 6]) (s_ : ElT [.int .u64, .int .u64, .int .u64, .int .u64, .int .u64, .int .u64, .int .u64]) => match c_, s_ with | e, (w0, w1, w2, w3, w4, w5, w6) => e.kind = 5 → 0 ≤ e.inner ∧ e.inner < 400)) (fun (c_ : ElT [.nm 6]) (s_ : ElT [.int .u64, .int .u64, .int .u64, .int .u64, .int .u64, .int .u64, .int .u64]) => match c_, s_ with | e, (w0, w1, w2, w3, w4, w5, w6) => ((Sp.inn1 ⟨w0, w1, w2, w3, w4, w5, w6⟩ e, (w0, w1, w2, w3, w4, w5, w6))))
def regular_Automaton_accepting_2.d : LD := ({ cs := [0], cts := [.nm 6], pts := [(1, .loc 0 0)], vs := [], os := [(0, .plain, [none, none, none])], vts := [.int .i64, .str, .lst (.nm 0)], own := [false, false, false], ro := [0, 1], nx := 1 } : LD)
def regular_Automaton_accepting_2.C : Ctr := memCtr regular_Automaton_accepting_2.d [.bool] (some (fun (c_ : ElT [.nm 6]) (s_ : ElT [.int .i64, .str, .lst (.nm 0)]) => match c_, s_ with | e, (k, x, ks) => 1 ≤ e.kind ∧ e.kind ≤ 5)) (fun (c_ : ElT [.nm 6]) (s_ : ElT [.int .i64, .str, .lst (.nm 0)]) => match c_, s_ with | e, (k, x, ks) => ((Sp.rreads e ⟨k, x, ks⟩, (k, x, ks))))
def regular_Automaton_into__1.d : LD := ({ cs := [0, 1], cts := [.nm 7, .nm 8], pts := [(2, .fn 48 [] [.loc 0 0])], vs := [], os := [(0, .plain, [none, none, none, none, none, none, none])], vts := [.int .u64, .int .u64, .int .u64, .int .u64, .int .u64, .int .u64, .int .u64], own := [false, false, false, false, false, false, false], ro := [0, 1, 2], nx := 1 } : LD)
def regular_Automaton_into__1.L0 : LD := { cs := [11, 12], cts := [.lst (.nm 6), .int .i64], pts := [(2, (.fn 48 [] [(.loc 0 0)])), (4, (.loc 9 0)), (7, (.loc 11 0))], vs := [13], os := [(0, .plain, [none, none, none, none, none, none, none]), (9, .plain, [none, none, none, none, none, none, none]), (11, .plain, [none, none, none, none, none, none, none])], vts := [.int .i64, .int .u64, .int .u64, .int .u64, .int .u64, .int .u64, .int .u64, .int .u64, .int .u64, .int .u64, .int .u64, .int .u64, .int .u64, .int .u64, .int .u64, .int .u64, .int .u64, .int .u64, .int .u64, .int .u64, .int .u64, .int .u64], own := [false, false, false, false, false, false, false, false, false, false, false, false, false, false, false, false, false, false, false, false, false, false], ro := [0, 1, 2, 3, 4, 6, 7, 10, 11, 12], nx := 100 }
def regular_Automaton_into__1.Λ (a : Aut) (u : Bts) (w0 : Int) (w1 : Int) (w2 : Int) (w3 : Int) (w4 : Int) (w5 : Int) (w6 : Int) : Nat → Option (Loop (ElT [.bool])) := fun id =>
 if id = 0 then some (mkLoop regular_Automaton_into__1.L0
  (fun (c_ : (List Edg) × Int) (s_ : Int × Int × Int × Int × Int × Int × Int × Int × Int × Int × Int × Int × Int × Int × Int × Int × Int × Int × Int × Int × Int × Int) => match c_, s_ with | (l, m), (i, v0, v1, v2, v3, v4, v5, v6, s0, s1, s2, s3, s4, s5, s6, o0, o1, o2, o3, o4, o5, o6) => l = a.edges ∧ m = l.length ∧ l.length < 9223372036854775808 ∧ 0 ≤ i ∧ i ≤ l.length ∧ (v0 = w0 ∧ v1 = w1 ∧ v2 = w2 ∧ v3 = w3 ∧ v4 = w4 ∧ v5 = w5 ∧ v6 = w6) ∧ (⟨s0, s1, s2, s3, s4, s5, s6⟩ : Bts) = u)
  (fun (c_ : (List Edg) × Int) (s_ : Int × Int × Int × Int × Int × Int × Int × Int × Int × Int × Int × Int × Int × Int × Int × Int × Int × Int × Int × Int × Int × Int) => match c_, s_ with | (l, m), (i, v0, v1, v2, v3, v4, v5, v6, s0, s1, s2, s3, s4, s5, s6, o0, o1, o2, o3, o4, o5, o6) => (l.length - i : Int).toNat)
  (fun (c_ : (List Edg) × Int) (s_ : Int × Int × Int × Int × Int × Int × Int × Int × Int × Int × Int × Int × Int × Int × Int × Int × Int × Int × Int × Int × Int × Int) => match c_, s_ with | (l, m), (i, v0, v1, v2, v3, v4, v5, v6, s0, s1, s2, s3, s4, s5, s6, o0, o1, o2, o3, o4, o5, o6) => .brk ((l.length : Int), v0, v1, v2, v3, v4, v5, v6, s0, s1, s2, s3, s4, s5, s6, (Sp.bstep (Sp.inn1 ⟨w0, w1, w2, w3, w4, w5, w6⟩) u (l.drop i.toNat) ⟨o0, o1, o2, o3, o4, o5, o6⟩).b0, (Sp.bstep (Sp.inn1 ⟨w0, w1, w2, w3, w4, w5, w6⟩) u (l.drop i.toNat) ⟨o0, o1, o2, o3, o4, o5, o6⟩).b1, (Sp.bstep (Sp.inn1 ⟨w0, w1, w2, w3, w4, w5, w6⟩) u (l.drop i.toNat) ⟨o0, o1, o2, o3, o4, o5, o6⟩).b2, (Sp.bstep (Sp.inn1 ⟨w0, w1, w2, w3, w4, w5, w6⟩) u (l.drop i.toNat) ⟨o0, o1, o2, o3, o4, o5, o6⟩).b3, (Sp.bstep (Sp.inn1 ⟨w0, w1, w2, w3, w4, w5, w6⟩) u (l.drop i.toNat) ⟨o0, o1, o2, o3, o4, o5, o6⟩).b4, (Sp.bstep (Sp.inn1 ⟨w0, w1, w2, w3, w4, w5, w6⟩) u (l.drop i.toNat) ⟨o0, o1, o2, o3, o4, o5, o6⟩).b5, (Sp.bstep (Sp.inn1 ⟨w0, w1, w2, w3, w4, w5, w6⟩) u (l.drop i.toNat) ⟨o0, o1, o2, o3, o4, o5, o6⟩).b6)) [] false) else
 none
def regular_Automaton_into__1.C : Ctr := memCtr regular_Automaton_into__1.d [.nm 8] (some (fun (c_ : ElT [.nm 7, .nm 8]) (s_ : ElT [.int .u64, .int .u64, .int .u64, .int .u64, .int .u64, .int .u64, .int .u64]) => match c_, s_ with | (a, u), (w0, w1, w2, w3, w4, w5, w6) => ∀ e ∈ a.edges, Sp.okE e)) (fun (c_ : ElT [.nm 7, .nm 8]) (s_ : ElT [.int .u64, .int .u64, .int .u64, .int .u64, .int .u64, .int .u64, .int .u64]) => match c_, s_ with | (a, u), (w0, w1, w2, w3, w4, w5, w6) => ((Sp.binto a.edges u (Sp.inn1 ⟨w0, w1, w2, w3, w4, w5, w6⟩), (w0, w1, w2, w3, w4, w5, w6))))
end Go.AL
namespace Go.AL
set_option linter.unusedVariables false
set_option maxRecDepth 10000
def regular_Automaton_accepting_1.t (e : Edg) (w0 : Int) (w1 : Int) (w2 : Int) (w3 : Int) (w4 : Int) (w5 : Int) (w6 : Int) : Prop :=
 ((((decide ((Edg.kind e)=5))=true)→((0≤(Edg.inner e))∧((Edg.inner e) < 400)))∧(((Sp.inn1 (Bts.mk w0 w1 w2 w3 w4 w5 w6) e), (w0, (w1, (w2, (w3, (w4, (w5, w6)))))))=(((decide ((Edg.kind e)=5)) && (Sp.bhas (Bts.mk w0 w1 w2 w3 w4 w5 w6) (Edg.inner e))), (w0, (w1, (w2, (w3, (w4, (w5, w6)))))))))
def regular_Automaton_accepting_2.t (e : Edg) (k : Int) (x : ByteArray) (ks : (List Tm)) : Prop :=
 (((1≤(Edg.kind e))∧((Edg.kind e)≤5))∧(∀ b : Bool, (((Sp.rreads (Edg.mk (Edg.src e) (Edg.dst e) (Edg.kind e) (Tm.mk (Tm.kind (Edg.sym e)) (Tm.text (Edg.sym e)) (Tm.kids (Edg.sym e))) (Edg.exc e) (Edg.inner e)) (Tm.mk k x ks))=b)→(((Sp.rreads e (Tm.mk k x ks)), (k, (x, ks)))=(b, (k, (x, ks)))))))
def regular_Automaton_into__1.l0 (a : Aut) (w0 : Int) (w1 : Int) (w2 : Int) (w3 : Int) (w4 : Int) (w5 : Int) (w6 : Int) (u : Bts) : Prop :=
 (∀ l : (List Edg), (∀ i : Int, (∀ i1 : Int, (∀ i2 : Int, (∀ i3 : Int, (∀ i4 : Int, (∀ i5 : Int, (∀ i6 : Int, (∀ i7 : Int, (∀ i8 : Int, (∀ i9 : Int, (∀ i10 : Int, (∀ i11 : Int, (∀ i12 : Int, (∀ i13 : Int, (∀ i14 : Int, (∀ i15 : Int, (∀ i16 : Int, (∀ i17 : Int, (∀ i18 : Int, (∀ i19 : Int, (∀ i20 : Int, (∀ i21 : Int, (∀ i22 : Int, (((l=(Aut.edges a))∧((i=(↑(List.length l) : Int))∧(((List.length l) < 9223372036854775808)∧((0≤i1)∧((i1≤(↑(List.length l) : Int))∧(((i2=w0)∧((i3=w1)∧((i4=w2)∧((i5=w3)∧((i6=w4)∧((i7=w5)∧(i8=w6)))))))∧((Bts.mk i9 i10 i11 i12 i13 i14 i15)=u)))))))→(ifB (decide (i1 < i)) (((0≤i1)∧(i1 < (↑(List.length l) : Int)))∧(((0≤(Edg.dst (nth default l i1)))∧((Edg.dst (nth default l i1)) < 400))∧(∀ b : Bool, (((Sp.bhas (Bts.mk i9 i10 i11 i12 i13 i14 i15) (Edg.dst (nth default l i1)))=b)→(((b=true)→((((Edg.kind (nth default l i1))=5)→((0≤(Edg.inner (nth default l i1)))∧((Edg.inner (nth default l i1)) < 400)))∧(∀ b1 : Bool, (∀ i23 : Int, (∀ i24 : Int, (∀ i25 : Int, (∀ i26 : Int, (∀ i27 : Int, (∀ i28 : Int, (∀ i29 : Int, ((((Sp.inn1 (Bts.mk i2 i3 i4 i5 i6 i7 i8) (Edg.mk (Edg.src (nth default l i1)) (Edg.dst (nth default l i1)) (Edg.kind (nth default l i1)) (Tm.mk (Tm.kind (Edg.sym (nth default l i1))) (Tm.text (Edg.sym (nth default l i1))) (Tm.kids (Edg.sym (nth default l i1)))) (Edg.exc (nth default l i1)) (Edg.inner (nth default l i1)))), (i2, (i3, (i4, (i5, (i6, (i7, i8)))))))=(b1, (i23, (i24, (i25, (i26, (i27, (i28, i29))))))))→(ifB (b && b1) (((0≤(Edg.src (nth default l i1)))∧((Edg.src (nth default l i1)) < 400))∧(∀ i30 : Int, (∀ i31 : Int, (∀ i32 : Int, (∀ i33 : Int, (∀ i34 : Int, (∀ i35 : Int, (∀ i36 : Int, ((((), ((Bts.b0 (Sp.bput (Bts.mk i16 i17 i18 i19 i20 i21 i22) (Edg.src (nth default l i1)))), ((Bts.b1 (Sp.bput (Bts.mk i16 i17 i18 i19 i20 i21 i22) (Edg.src (nth default l i1)))), ((Bts.b2 (Sp.bput (Bts.mk i16 i17 i18 i19 i20 i21 i22) (Edg.src (nth default l i1)))), ((Bts.b3 (Sp.bput (Bts.mk i16 i17 i18 i19 i20 i21 i22) (Edg.src (nth default l i1)))), ((Bts.b4 (Sp.bput (Bts.mk i16 i17 i18 i19 i20 i21 i22) (Edg.src (nth default l i1)))), ((Bts.b5 (Sp.bput (Bts.mk i16 i17 i18 i19 i20 i21 i22) (Edg.src (nth default l i1)))), (Bts.b6 (Sp.bput (Bts.mk i16 i17 i18 i19 i20 i21 i22) (Edg.src (nth default l i1)))))))))))=((), (i30, (i31, (i32, (i33, (i34, (i35, i36))))))))→((inR .i64 (i1 + 1))∧(((l=(Aut.edges a))∧((i=(↑(List.length l) : Int))∧(((List.length l) < 9223372036854775808)∧((0≤(i1 + 1))∧(((i1 + 1)≤(↑(List.length l) : Int))∧(((i23=w0)∧((i24=w1)∧((i25=w2)∧((i26=w3)∧((i27=w4)∧((i28=w5)∧(i29=w6)))))))∧((Bts.mk i9 i10 i11 i12 i13 i14 i15)=u)))))))∧(((Int.toNat ((↑(List.length l) : Int) - (i1 + 1))) < (Int.toNat ((↑(List.length l) : Int) - i1)))∧(((LOut.brk ((↑(List.length l) : Int), (i23, (i24, (i25, (i26, (i27, (i28, (i29, (i9, (i10, (i11, (i12, (i13, (i14, (i15, ((Bts.b0 (Sp.bstep (Sp.inn1 (Bts.mk w0 w1 w2 w3 w4 w5 w6)) u (List.drop (Int.toNat (i1 + 1)) l) (Bts.mk i30 i31 i32 i33 i34 i35 i36))), ((Bts.b1 (Sp.bstep (Sp.inn1 (Bts.mk w0 w1 w2 w3 w4 w5 w6)) u (List.drop (Int.toNat (i1 + 1)) l) (Bts.mk i30 i31 i32 i33 i34 i35 i36))), ((Bts.b2 (Sp.bstep (Sp.inn1 (Bts.mk w0 w1 w2 w3 w4 w5 w6)) u (List.drop (Int.toNat (i1 + 1)) l) (Bts.mk i30 i31 i32 i33 i34 i35 i36))), ((Bts.b3 (Sp.bstep (Sp.inn1 (Bts.mk w0 w1 w2 w3 w4 w5 w6)) u (List.drop (Int.toNat (i1 + 1)) l) (Bts.mk i30 i31 i32 i33 i34 i35 i36))), ((Bts.b4 (Sp.bstep (Sp.inn1 (Bts.mk w0 w1 w2 w3 w4 w5 w6)) u (List.drop (Int.toNat (i1 + 1)) l) (Bts.mk i30 i31 i32 i33 i34 i35 i36))), ((Bts.b5 (Sp.bstep (Sp.inn1 (Bts.mk w0 w1 w2 w3 w4 w5 w6)) u (List.drop (Int.toNat (i1 + 1)) l) (Bts.mk i30 i31 i32 i33 i34 i35 i36))), (Bts.b6 (Sp.bstep (Sp.inn1 (Bts.mk w0 w1 w2 w3 w4 w5 w6)) u (List.drop (Int.toNat (i1 + 1)) l) (Bts.mk i30 i31 i32 i33 i34 i35 i36))))))))))))))))))))))))) : (LOut (Int × (Int × (Int × (Int × (Int × (Int × (Int × (Int × (Int × (Int × (Int × (Int × (Int × (Int × (Int × (Int × (Int × (Int × (Int × (Int × (Int × Int))))))))))))))))))))) Bool))=(LOut.brk ((↑(List.length l) : Int), (i2, (i3, (i4, (i5, (i6, (i7, (i8, (i9, (i10, (i11, (i12, (i13, (i14, (i15, ((Bts.b0 (Sp.bstep (Sp.inn1 (Bts.mk w0 w1 w2 w3 w4 w5 w6)) u (List.drop (Int.toNat i1) l) (Bts.mk i16 i17 i18 i19 i20 i21 i22))), ((Bts.b1 (Sp.bstep (Sp.inn1 (Bts.mk w0 w1 w2 w3 w4 w5 w6)) u (List.drop (Int.toNat i1) l) (Bts.mk i16 i17 i18 i19 i20 i21 i22))), ((Bts.b2 (Sp.bstep (Sp.inn1 (Bts.mk w0 w1 w2 w3 w4 w5 w6)) u (List.drop (Int.toNat i1) l) (Bts.mk i16 i17 i18 i19 i20 i21 i22))), ((Bts.b3 (Sp.bstep (Sp.inn1 (Bts.mk w0 w1 w2 w3 w4 w5 w6)) u (List.drop (Int.toNat i1) l) (Bts.mk i16 i17 i18 i19 i20 i21 i22))), ((Bts.b4 (Sp.bstep (Sp.inn1 (Bts.mk w0 w1 w2 w3 w4 w5 w6)) u (List.drop (Int.toNat i1) l) (Bts.mk i16 i17 i18 i19 i20 i21 i22))), ((Bts.b5 (Sp.bstep (Sp.inn1 (Bts.mk w0 w1 w2 w3 w4 w5 w6)) u (List.drop (Int.toNat i1) l) (Bts.mk i16 i17 i18 i19 i20 i21 i22))), (Bts.b6 (Sp.bstep (Sp.inn1 (Bts.mk w0 w1 w2 w3 w4 w5 w6)) u (List.drop (Int.toNat i1) l) (Bts.mk i16 i17 i18 i19 i20 i21 i22)))))))))))))))))))))))))))))))))))))) ((inR .i64 (i1 + 1))∧(((l=(Aut.edges a))∧((i=(↑(List.length l) : Int))∧(((List.length l) < 9223372036854775808)∧((0≤(i1 + 1))∧(((i1 + 1)≤(↑(List.length l) : Int))∧(((i23=w0)∧((i24=w1)∧((i25=w2)∧((i26=w3)∧((i27=w4)∧((i28=w5)∧(i29=w6)))))))∧((Bts.mk i9 i10 i11 i12 i13 i14 i15)=u)))))))∧(((Int.toNat ((↑(List.length l) : Int) - (i1 + 1))) < (Int.toNat ((↑(List.length l) : Int) - i1)))∧(((LOut.brk ((↑(List.length l) : Int), (i23, (i24, (i25, (i26, (i27, (i28, (i29, (i9, (i10, (i11, (i12, (i13, (i14, (i15, ((Bts.b0 (Sp.bstep (Sp.inn1 (Bts.mk w0 w1 w2 w3 w4 w5 w6)) u (List.drop (Int.toNat (i1 + 1)) l) (Bts.mk i16 i17 i18 i19 i20 i21 i22))), ((Bts.b1 (Sp.bstep (Sp.inn1 (Bts.mk w0 w1 w2 w3 w4 w5 w6)) u (List.drop (Int.toNat (i1 + 1)) l) (Bts.mk i16 i17 i18 i19 i20 i21 i22))), ((Bts.b2 (Sp.bstep (Sp.inn1 (Bts.mk w0 w1 w2 w3 w4 w5 w6)) u (List.drop (Int.toNat (i1 + 1)) l) (Bts.mk i16 i17 i18 i19 i20 i21 i22))), ((Bts.b3 (Sp.bstep (Sp.inn1 (Bts.mk w0 w1 w2 w3 w4 w5 w6)) u (List.drop (Int.toNat (i1 + 1)) l) (Bts.mk i16 i17 i18 i19 i20 i21 i22))), ((Bts.b4 (Sp.bstep (Sp.inn1 (Bts.mk w0 w1 w2 w3 w4 w5 w6)) u (List.drop (Int.toNat (i1 + 1)) l) (Bts.mk i16 i17 i18 i19 i20 i21 i22))), ((Bts.b5 (Sp.bstep (Sp.inn1 (Bts.mk w0 w1 w2 w3 w4 w5 w6)) u (List.drop (Int.toNat (i1 + 1)) l) (Bts.mk i16 i17 i18 i19 i20 i21 i22))), (Bts.b6 (Sp.bstep (Sp.inn1 (Bts.mk w0 w1 w2 w3 w4 w5 w6)) u (List.drop (Int.toNat (i1 + 1)) l) (Bts.mk i16 i17 i18 i19 i20 i21 i22))))))))))))))))))))))))) : (LOut (Int × (Int × (Int × (Int × (Int × (Int × (Int × (Int × (Int × (Int × (Int × (Int × (Int × (Int × (Int × (Int × (Int × (Int × (Int × (Int × (Int × Int))))))))))))))))))))) Bool))=(LOut.brk ((↑(List.length l) : Int), (i2, (i3, (i4, (i5, (i6, (i7, (i8, (i9, (i10, (i11, (i12, (i13, (i14, (i15, ((Bts.b0 (Sp.bstep (Sp.inn1 (Bts.mk w0 w1 w2 w3 w4 w5 w6)) u (List.drop (Int.toNat i1) l) (Bts.mk i16 i17 i18 i19 i20 i21 i22))), ((Bts.b1 (Sp.bstep (Sp.inn1 (Bts.mk w0 w1 w2 w3 w4 w5 w6)) u (List.drop (Int.toNat i1) l) (Bts.mk i16 i17 i18 i19 i20 i21 i22))), ((Bts.b2 (Sp.bstep (Sp.inn1 (Bts.mk w0 w1 w2 w3 w4 w5 w6)) u (List.drop (Int.toNat i1) l) (Bts.mk i16 i17 i18 i19 i20 i21 i22))), ((Bts.b3 (Sp.bstep (Sp.inn1 (Bts.mk w0 w1 w2 w3 w4 w5 w6)) u (List.drop (Int.toNat i1) l) (Bts.mk i16 i17 i18 i19 i20 i21 i22))), ((Bts.b4 (Sp.bstep (Sp.inn1 (Bts.mk w0 w1 w2 w3 w4 w5 w6)) u (List.drop (Int.toNat i1) l) (Bts.mk i16 i17 i18 i19 i20 i21 i22))), ((Bts.b5 (Sp.bstep (Sp.inn1 (Bts.mk w0 w1 w2 w3 w4 w5 w6)) u (List.drop (Int.toNat i1) l) (Bts.mk i16 i17 i18 i19 i20 i21 i22))), (Bts.b6 (Sp.bstep (Sp.inn1 (Bts.mk w0 w1 w2 w3 w4 w5 w6)) u (List.drop (Int.toNat i1) l) (Bts.mk i16 i17 i18 i19 i20 i21 i22)))))))))))))))))))))))))))))))))))))))))∧((b=(!true))→(ifB (b && false) (((0≤(Edg.src (nth default l i1)))∧((Edg.src (nth default l i1)) < 400))∧(∀ i23 : Int, (∀ i24 : Int, (∀ i25 : Int, (∀ i26 : Int, (∀ i27 : Int, (∀ i28 : Int, (∀ i29 : Int, ((((), ((Bts.b0 (Sp.bput (Bts.mk i16 i17 i18 i19 i20 i21 i22) (Edg.src (nth default l i1)))), ((Bts.b1 (Sp.bput (Bts.mk i16 i17 i18 i19 i20 i21 i22) (Edg.src (nth default l i1)))), ((Bts.b2 (Sp.bput (Bts.mk i16 i17 i18 i19 i20 i21 i22) (Edg.src (nth default l i1)))), ((Bts.b3 (Sp.bput (Bts.mk i16 i17 i18 i19 i20 i21 i22) (Edg.src (nth default l i1)))), ((Bts.b4 (Sp.bput (Bts.mk i16 i17 i18 i19 i20 i21 i22) (Edg.src (nth default l i1)))), ((Bts.b5 (Sp.bput (Bts.mk i16 i17 i18 i19 i20 i21 i22) (Edg.src (nth default l i1)))), (Bts.b6 (Sp.bput (Bts.mk i16 i17 i18 i19 i20 i21 i22) (Edg.src (nth default l i1)))))))))))=((), (i23, (i24, (i25, (i26, (i27, (i28, i29))))))))→((inR .i64 (i1 + 1))∧(((l=(Aut.edges a))∧((i=(↑(List.length l) : Int))∧(((List.length l) < 9223372036854775808)∧((0≤(i1 + 1))∧(((i1 + 1)≤(↑(List.length l) : Int))∧(((i2=w0)∧((i3=w1)∧((i4=w2)∧((i5=w3)∧((i6=w4)∧((i7=w5)∧(i8=w6)))))))∧((Bts.mk i9 i10 i11 i12 i13 i14 i15)=u)))))))∧(((Int.toNat ((↑(List.length l) : Int) - (i1 + 1))) < (Int.toNat ((↑(List.length l) : Int) - i1)))∧(((LOut.brk ((↑(List.length l) : Int), (i2, (i3, (i4, (i5, (i6, (i7, (i8, (i9, (i10, (i11, (i12, (i13, (i14, (i15, ((Bts.b0 (Sp.bstep (Sp.inn1 (Bts.mk w0 w1 w2 w3 w4 w5 w6)) u (List.drop (Int.toNat (i1 + 1)) l) (Bts.mk i23 i24 i25 i26 i27 i28 i29))), ((Bts.b1 (Sp.bstep (Sp.inn1 (Bts.mk w0 w1 w2 w3 w4 w5 w6)) u (List.drop (Int.toNat (i1 + 1)) l) (Bts.mk i23 i24 i25 i26 i27 i28 i29))), ((Bts.b2 (Sp.bstep (Sp.inn1 (Bts.mk w0 w1 w2 w3 w4 w5 w6)) u (List.drop (Int.toNat (i1 + 1)) l) (Bts.mk i23 i24 i25 i26 i27 i28 i29))), ((Bts.b3 (Sp.bstep (Sp.inn1 (Bts.mk w0 w1 w2 w3 w4 w5 w6)) u (List.drop (Int.toNat (i1 + 1)) l) (Bts.mk i23 i24 i25 i26 i27 i28 i29))), ((Bts.b4 (Sp.bstep (Sp.inn1 (Bts.mk w0 w1 w2 w3 w4 w5 w6)) u (List.drop (Int.toNat (i1 + 1)) l) (Bts.mk i23 i24 i25 i26 i27 i28 i29))), ((Bts.b5 (Sp.bstep (Sp.inn1 (Bts.mk w0 w1 w2 w3 w4 w5 w6)) u (List.drop (Int.toNat (i1 + 1)) l) (Bts.mk i23 i24 i25 i26 i27 i28 i29))), (Bts.b6 (Sp.bstep (Sp.inn1 (Bts.mk w0 w1 w2 w3 w4 w5 w6)) u (List.drop (Int.toNat (i1 + 1)) l) (Bts.mk i23 i24 i25 i26 i27 i28 i29))))))))))))))))))))))))) : (LOut (Int × (Int × (Int × (Int × (Int × (Int × (Int × (Int × (Int × (Int × (Int × (Int × (Int × (Int × (Int × (Int × (Int × (Int × (Int × (Int × (Int × Int))))))))))))))))))))) Bool))=(LOut.brk ((↑(List.length l) : Int), (i2, (i3, (i4, (i5, (i6, (i7, (i8, (i9, (i10, (i11, (i12, (i13, (i14, (i15, ((Bts.b0 (Sp.bstep (Sp.inn1 (Bts.mk w0 w1 w2 w3 w4 w5 w6)) u (List.drop (Int.toNat i1) l) (Bts.mk i16 i17 i18 i19 i20 i21 i22))), ((Bts.b1 (Sp.bstep (Sp.inn1 (Bts.mk w0 w1 w2 w3 w4 w5 w6)) u (List.drop (Int.toNat i1) l) (Bts.mk i16 i17 i18 i19 i20 i21 i22))), ((Bts.b2 (Sp.bstep (Sp.inn1 (Bts.mk w0 w1 w2 w3 w4 w5 w6)) u (List.drop (Int.toNat i1) l) (Bts.mk i16 i17 i18 i19 i20 i21 i22))), ((Bts.b3 (Sp.bstep (Sp.inn1 (Bts.mk w0 w1 w2 w3 w4 w5 w6)) u (List.drop (Int.toNat i1) l) (Bts.mk i16 i17 i18 i19 i20 i21 i22))), ((Bts.b4 (Sp.bstep (Sp.inn1 (Bts.mk w0 w1 w2 w3 w4 w5 w6)) u (List.drop (Int.toNat i1) l) (Bts.mk i16 i17 i18 i19 i20 i21 i22))), ((Bts.b5 (Sp.bstep (Sp.inn1 (Bts.mk w0 w1 w2 w3 w4 w5 w6)) u (List.drop (Int.toNat i1) l) (Bts.mk i16 i17 i18 i19 i20 i21 i22))), (Bts.b6 (Sp.bstep (Sp.inn1 (Bts.mk w0 w1 w2 w3 w4 w5 w6)) u (List.drop (Int.toNat i1) l) (Bts.mk i16 i17 i18 i19 i20 i21 i22)))))))))))))))))))))))))))))))))))))) ((inR .i64 (i1 + 1))∧(((l=(Aut.edges a))∧((i=(↑(List.length l) : Int))∧(((List.length l) < 9223372036854775808)∧((0≤(i1 + 1))∧(((i1 + 1)≤(↑(List.length l) : Int))∧(((i2=w0)∧((i3=w1)∧((i4=w2)∧((i5=w3)∧((i6=w4)∧((i7=w5)∧(i8=w6)))))))∧((Bts.mk i9 i10 i11 i12 i13 i14 i15)=u)))))))∧(((Int.toNat ((↑(List.length l) : Int) - (i1 + 1))) < (Int.toNat ((↑(List.length l) : Int) - i1)))∧(((LOut.brk ((↑(List.length l) : Int), (i2, (i3, (i4, (i5, (i6, (i7, (i8, (i9, (i10, (i11, (i12, (i13, (i14, (i15, ((Bts.b0 (Sp.bstep (Sp.inn1 (Bts.mk w0 w1 w2 w3 w4 w5 w6)) u (List.drop (Int.toNat (i1 + 1)) l) (Bts.mk i16 i17 i18 i19 i20 i21 i22))), ((Bts.b1 (Sp.bstep (Sp.inn1 (Bts.mk w0 w1 w2 w3 w4 w5 w6)) u (List.drop (Int.toNat (i1 + 1)) l) (Bts.mk i16 i17 i18 i19 i20 i21 i22))), ((Bts.b2 (Sp.bstep (Sp.inn1 (Bts.mk w0 w1 w2 w3 w4 w5 w6)) u (List.drop (Int.toNat (i1 + 1)) l) (Bts.mk i16 i17 i18 i19 i20 i21 i22))), ((Bts.b3 (Sp.bstep (Sp.inn1 (Bts.mk w0 w1 w2 w3 w4 w5 w6)) u (List.drop (Int.toNat (i1 + 1)) l) (Bts.mk i16 i17 i18 i19 i20 i21 i22))), ((Bts.b4 (Sp.bstep (Sp.inn1 (Bts.mk w0 w1 w2 w3 w4 w5 w6)) u (List.drop (Int.toNat (i1 + 1)) l) (Bts.mk i16 i17 i18 i19 i20 i21 i22))), ((Bts.b5 (Sp.bstep (Sp.inn1 (Bts.mk w0 w1 w2 w3 w4 w5 w6)) u (List.drop (Int.toNat (i1 + 1)) l) (Bts.mk i16 i17 i18 i19 i20 i21 i22))), (Bts.b6 (Sp.bstep (Sp.inn1 (Bts.mk w0 w1 w2 w3 w4 w5 w6)) u (List.drop (Int.toNat (i1 + 1)) l) (Bts.mk i16 i17 i18 i19 i20 i21 i22))))))))))))))))))))))))) : (LOut (Int × (Int × (Int × (Int × (Int × (Int × (Int × (Int × (Int × (Int × (Int × (Int × (Int × (Int × (Int × (Int × (Int × (Int × (Int × (Int × (Int × Int))))))))))))))))))))) Bool))=(LOut.brk ((↑(List.length l) : Int), (i2, (i3, (i4, (i5, (i6, (i7, (i8, (i9, (i10, (i11, (i12, (i13, (i14, (i15, ((Bts.b0 (Sp.bstep (Sp.inn1 (Bts.mk w0 w1 w2 w3 w4 w5 w6)) u (List.drop (Int.toNat i1) l) (Bts.mk i16 i17 i18 i19 i20 i21 i22))), ((Bts.b1 (Sp.bstep (Sp.inn1 (Bts.mk w0 w1 w2 w3 w4 w5 w6)) u (List.drop (Int.toNat i1) l) (Bts.mk i16 i17 i18 i19 i20 i21 i22))), ((Bts.b2 (Sp.bstep (Sp.inn1 (Bts.mk w0 w1 w2 w3 w4 w5 w6)) u (List.drop (Int.toNat i1) l) (Bts.mk i16 i17 i18 i19 i20 i21 i22))), ((Bts.b3 (Sp.bstep (Sp.inn1 (Bts.mk w0 w1 w2 w3 w4 w5 w6)) u (List.drop (Int.toNat i1) l) (Bts.mk i16 i17 i18 i19 i20 i21 i22))), ((Bts.b4 (Sp.bstep (Sp.inn1 (Bts.mk w0 w1 w2 w3 w4 w5 w6)) u (List.drop (Int.toNat i1) l) (Bts.mk i16 i17 i18 i19 i20 i21 i22))), ((Bts.b5 (Sp.bstep (Sp.inn1 (Bts.mk w0 w1 w2 w3 w4 w5 w6)) u (List.drop (Int.toNat i1) l) (Bts.mk i16 i17 i18 i19 i20 i21 i22))), (Bts.b6 (Sp.bstep (Sp.inn1 (Bts.mk w0 w1 w2 w3 w4 w5 w6)) u (List.drop (Int.toNat i1) l) (Bts.mk i16 i17 i18 i19 i20 i21 i22)))))))))))))))))))))))))))))))))))) (((LOut.brk ((↑(List.length l) : Int), (i2, (i3, (i4, (i5, (i6, (i7, (i8, (i9, (i10, (i11, (i12, (i13, (i14, (i15, ((Bts.b0 (Sp.bstep (Sp.inn1 (Bts.mk w0 w1 w2 w3 w4 w5 w6)) u (List.drop (Int.toNat i1) l) (Bts.mk i16 i17 i18 i19 i20 i21 i22))), ((Bts.b1 (Sp.bstep (Sp.inn1 (Bts.mk w0 w1 w2 w3 w4 w5 w6)) u (List.drop (Int.toNat i1) l) (Bts.mk i16 i17 i18 i19 i20 i21 i22))), ((Bts.b2 (Sp.bstep (Sp.inn1 (Bts.mk w0 w1 w2 w3 w4 w5 w6)) u (List.drop (Int.toNat i1) l) (Bts.mk i16 i17 i18 i19 i20 i21 i22))), ((Bts.b3 (Sp.bstep (Sp.inn1 (Bts.mk w0 w1 w2 w3 w4 w5 w6)) u (List.drop (Int.toNat i1) l) (Bts.mk i16 i17 i18 i19 i20 i21 i22))), ((Bts.b4 (Sp.bstep (Sp.inn1 (Bts.mk w0 w1 w2 w3 w4 w5 w6)) u (List.drop (Int.toNat i1) l) (Bts.mk i16 i17 i18 i19 i20 i21 i22))), ((Bts.b5 (Sp.bstep (Sp.inn1 (Bts.mk w0 w1 w2 w3 w4 w5 w6)) u (List.drop (Int.toNat i1) l) (Bts.mk i16 i17 i18 i19 i20 i21 i22))), (Bts.b6 (Sp.bstep (Sp.inn1 (Bts.mk w0 w1 w2 w3 w4 w5 w6)) u (List.drop (Int.toNat i1) l) (Bts.mk i16 i17 i18 i19 i20 i21 i22))))))))))))))))))))))))) : (LOut (Int × (Int × (Int × (Int × (Int × (Int × (Int × (Int × (Int × (Int × (Int × (Int × (Int × (Int × (Int × (Int × (Int × (Int × (Int × (Int × (Int × Int))))))))))))))))))))) Bool))=(LOut.brk (i1, (i2, (i3, (i4, (i5, (i6, (i7, (i8, (i9, (i10, (i11, (i12, (i13, (i14, (i15, (i16, (i17, (i18, (i19, (i20, (i21, i22)))))))))))))))))))))))))))))))))))))))))))))))))
def regular_Automaton_into__1.t (a : Aut) (u : Bts) (w0 : Int) (w1 : Int) (w2 : Int) (w3 : Int) (w4 : Int) (w5 : Int) (w6 : Int) : Prop :=
 (((List.length (Aut.edges a)) < 9223372036854775808)→((((Aut.edges a)=(Aut.edges a))∧(((↑(List.length (Aut.edges a)) : Int)=(↑(List.length (Aut.edges a)) : Int))∧(((List.length (Aut.edges a)) < 9223372036854775808)∧(((0 : Int)≤0)∧((0≤(↑(List.length (Aut.edges a)) : Int))∧(((w0=w0)∧((w1=w1)∧((w2=w2)∧((w3=w3)∧((w4=w4)∧((w5=w5)∧(w6=w6)))))))∧((Bts.mk (Bts.b0 u) (Bts.b1 u) (Bts.b2 u) (Bts.b3 u) (Bts.b4 u) (Bts.b5 u) (Bts.b6 u))=u)))))))∧((regular_Automaton_into__1.l0 a w0 w1 w2 w3 w4 w5 w6 u)∧(∀ i : Int, (∀ i1 : Int, (∀ i2 : Int, (∀ i3 : Int, (∀ i4 : Int, (∀ i5 : Int, (∀ i6 : Int, (∀ i7 : Int, (∀ i8 : Int, (∀ i9 : Int, (∀ i10 : Int, (∀ i11 : Int, (∀ i12 : Int, (∀ i13 : Int, (∀ i14 : Int, (∀ i15 : Int, (∀ i16 : Int, (∀ i17 : Int, (∀ i18 : Int, (∀ i19 : Int, (∀ i20 : Int, (∀ i21 : Int, ((((LOut.brk ((↑(List.length (Aut.edges a)) : Int), (w0, (w1, (w2, (w3, (w4, (w5, (w6, ((Bts.b0 u), ((Bts.b1 u), ((Bts.b2 u), ((Bts.b3 u), ((Bts.b4 u), ((Bts.b5 u), ((Bts.b6 u), ((Bts.b0 (Sp.bstep (Sp.inn1 (Bts.mk w0 w1 w2 w3 w4 w5 w6)) u (List.drop (Int.toNat 0) (Aut.edges a)) (Bts.mk 0 0 0 0 0 0 0))), ((Bts.b1 (Sp.bstep (Sp.inn1 (Bts.mk w0 w1 w2 w3 w4 w5 w6)) u (List.drop (Int.toNat 0) (Aut.edges a)) (Bts.mk 0 0 0 0 0 0 0))), ((Bts.b2 (Sp.bstep (Sp.inn1 (Bts.mk w0 w1 w2 w3 w4 w5 w6)) u (List.drop (Int.toNat 0) (Aut.edges a)) (Bts.mk 0 0 0 0 0 0 0))), ((Bts.b3 (Sp.bstep (Sp.inn1 (Bts.mk w0 w1 w2 w3 w4 w5 w6)) u (List.drop (Int.toNat 0) (Aut.edges a)) (Bts.mk 0 0 0 0 0 0 0))), ((Bts.b4 (Sp.bstep (Sp.inn1 (Bts.mk w0 w1 w2 w3 w4 w5 w6)) u (List.drop (Int.toNat 0) (Aut.edges a)) (Bts.mk 0 0 0 0 0 0 0))), ((Bts.b5 (Sp.bstep (Sp.inn1 (Bts.mk w0 w1 w2 w3 w4 w5 w6)) u (List.drop (Int.toNat 0) (Aut.edges a)) (Bts.mk 0 0 0 0 0 0 0))), (Bts.b6 (Sp.bstep (Sp.inn1 (Bts.mk w0 w1 w2 w3 w4 w5 w6)) u (List.drop (Int.toNat 0) (Aut.edges a)) (Bts.mk 0 0 0 0 0 0 0))))))))))))))))))))))))) : (LOut (Int × (Int × (Int × (Int × (Int × (Int × (Int × (Int × (Int × (Int × (Int × (Int × (Int × (Int × (Int × (Int × (Int × (Int × (Int × (Int × (Int × Int))))))))))))))))))))) Bool))=(LOut.brk (i, (i1, (i2, (i3, (i4, (i5, (i6, (i7, (i8, (i9, (i10, (i11, (i12, (i13, (i14, (i15, (i16, (i17, (i18, (i19, (i20, i21)))))))))))))))))))))))→(((Sp.binto (Aut.edges a) u (Sp.inn1 (Bts.mk w0 w1 w2 w3 w4 w5 w6))), (w0, (w1, (w2, (w3, (w4, (w5, w6)))))))=((Bts.mk i15 i16 i17 i18 i19 i20 i21), (i1, (i2, (i3, (i4, (i5, (i6, i7))))))))))))))))))))))))))))))))))
end Go.AL
namespace Go.AL
set_option linter.unusedVariables false
set_option linter.unusedSimpArgs false
set_option maxRecDepth 10000
attribute [local irreducible] wpF wpFX wpM wpFM
theorem regular_Automaton_accepting_1.main (e : Edg) (w0 w1 w2 w3 w4 w5 w6 : Int) (ha : e.kind = 5 → 0 ≤ e.inner ∧ e.inner < 400) : regular_Automaton_accepting_1.t e w0 w1 w2 w3 w4 w5 w6 := by
 refine ⟨fun h => ha (by simpa using h), rfl⟩
theorem regular_Automaton_accepting_1.ok (W : World) : CtrOK Go.Proofs.Tryz.prog W 48 regular_Automaton_accepting_1.C := by
 refine memOK (d := regular_Automaton_accepting_1.d) (Γ := lookC [(21, regular_set_has.C)]) (lookC_ok (fun p hp => by
  simp only [List.mem_cons, List.not_mem_nil, or_false] at hp
  subst hp; exact regular_set_has.ok W)) (Λ := fun c_ s_ => match c_, s_ with | e, (w0, w1, w2, w3, w4, w5, w6) => (fun _ => none)) (Λr := fun c_ s_ => match c_, s_ with | e, (w0, w1, w2, w3, w4, w5, w6) => (fun _ => none)) ?_
 intro c s hp
 obtain ⟨w0, w1, w2, w3, w4, w5, w6⟩ := s
 refine Eq.mpr ?_ (@regular_Automaton_accepting_1.main c w0 w1 w2 w3 w4 w5 w6 hp)
 kernel_rfl
theorem regular_Automaton_accepting_2.main (e : Edg) (k : Int) (x : ByteArray) (ks : List Tm) (ha : 1 ≤ e.kind ∧ e.kind ≤ 5) : regular_Automaton_accepting_2.t e k x ks := by
 refine ⟨ha, fun b hb => ?_⟩
 rw [Tm.eta] at hb
 rw [show e = Edg.mk e.src e.dst e.kind e.sym e.exc e.inner from rfl, hb]
theorem regular_Automaton_accepting_2.ok (W : World) : CtrOK Go.Proofs.Tryz.prog W 49 regular_Automaton_accepting_2.C := by
 refine memOK (d := regular_Automaton_accepting_2.d) (Γ := lookC [(50, regular_Edge_reads.C)]) (lookC_ok (fun p hp => by
  simp only [List.mem_cons, List.not_mem_nil, or_false] at hp
  subst hp; exact regular_Edge_reads.ok W)) (Λ := fun c_ s_ => match c_, s_ with | e, (k, x, ks) => (fun _ => none)) (Λr := fun c_ s_ => match c_, s_ with | e, (k, x, ks) => (fun _ => none)) ?_
 intro c s hp
 obtain ⟨k, x, ks⟩ := s
 refine Eq.mpr ?_ (@regular_Automaton_accepting_2.main c k x ks hp)
 kernel_rfl
theorem regular_Automaton_into__1.l0_ok (a : Aut) (u : Bts) (w0 w1 w2 w3 w4 w5 w6 : Int) (ha : ∀ e ∈ a.edges, Sp.okE e) : regular_Automaton_into__1.l0 a w0 w1 w2 w3 w4 w5 w6 u := by
 rintro l m i v0 v1 v2 v3 v4 v5 v6 s0 s1 s2 s3 s4 s5 s6 o0 o1 o2 o3 o4 o5 o6 ⟨e1, e2, h3, h1, h2, ⟨f0, f1, f2, f3, f4, f5, f6⟩, hf7⟩
 subst l m v0 v1 v2 v3 v4 v5 v6
 refine ifD (fun h => ?_) fun h => ?_
 ·have hi : i.toNat < a.edges.length := by omega
  have e1 : (i + 1).toNat = i.toNat + 1 := by omega
  obtain ⟨q1, q2, q3, q4⟩ := ha _ (nth_mem (d := default) hi)
  refine ⟨by omega, q2, ?_⟩
  rintro b hb
  rw [hf7] at hb
  have hk : Sp.bstep (Sp.inn1 ⟨w0, w1, w2, w3, w4, w5, w6⟩) u (List.drop i.toNat a.edges) ⟨o0, o1, o2, o3, o4, o5, o6⟩ = Sp.bstep (Sp.inn1 ⟨w0, w1, w2, w3, w4, w5, w6⟩) u (List.drop (i.toNat + 1) a.edges) (if (b && Sp.inn1 ⟨w0, w1, w2, w3, w4, w5, w6⟩ (nth default a.edges i)) = true then Sp.bput ⟨o0, o1, o2, o3, o4, o5, o6⟩ (nth default a.edges i).src else ⟨o0, o1, o2, o3, o4, o5, o6⟩) := by
   rw [nth_drop (d := default) hi, Sp.bstep, hb]
  refine ⟨fun hbt => ⟨q4, ?_⟩, fun hbf => ?_⟩
  ·rintro b1 c0 c1 c2 c3 c4 c5 c6 hq
   simp only [Prod.mk.injEq] at hq
   obtain ⟨g, g0, g1, g2, g3, g4, g5, g6⟩ := hq
   subst g0 g1 g2 g3 g4 g5 g6
   rw [Tm.eta] at g
   have g' : Sp.inn1 ⟨w0, w1, w2, w3, w4, w5, w6⟩ (nth default a.edges i) = b1 := g
   rw [g'] at hk
   refine ifB_of (fun h4 => ⟨q1, ?_⟩) fun h4 => ⟨inR64 (by omega), ⟨rfl, rfl, h3, by omega, by omega, ⟨rfl, rfl, rfl, rfl, rfl, rfl, rfl⟩, hf7⟩, by omega, ?_⟩
   ·rintro p0 p1 p2 p3 p4 p5 p6 hp
    simp only [Prod.mk.injEq, true_and] at hp
    obtain ⟨r0, r1, r2, r3, r4, r5, r6⟩ := hp
    subst r0 r1 r2 r3 r4 r5 r6
    refine ⟨inR64 (by omega), ⟨rfl, rfl, h3, by omega, by omega, ⟨rfl, rfl, rfl, rfl, rfl, rfl, rfl⟩, hf7⟩, by omega, ?_⟩
    rw [hk, e1, if_pos h4]
   ·rw [hk, e1, if_neg (by rw [h4]; simp)]
  ·subst hbf
   refine ifB_of (fun h4 => by simp at h4) fun h4 => ⟨inR64 (by omega), ⟨rfl, rfl, h3, by omega, by omega, ⟨rfl, rfl, rfl, rfl, rfl, rfl, rfl⟩, hf7⟩, by omega, ?_⟩
   rw [hk, e1, if_neg (by simp)]
 ·rw [List.drop_eq_nil_of_le (by omega), show i = a.edges.length by omega]
  rfl
theorem regular_Automaton_into__1.main (a : Aut) (u : Bts) (w0 w1 w2 w3 w4 w5 w6 : Int) (ha : ∀ e ∈ a.edges, Sp.okE e) : regular_Automaton_into__1.t a u w0 w1 w2 w3 w4 w5 w6 := by
 refine fun h => ⟨⟨rfl, rfl, h, by omega, by omega, ⟨rfl, rfl, rfl, rfl, rfl, rfl, rfl⟩, rfl⟩, regular_Automaton_into__1.l0_ok a u w0 w1 w2 w3 w4 w5 w6 ha, ?_⟩
 rintro i c0 c1 c2 c3 c4 c5 c6 s0 s1 s2 s3 s4 s5 s6 o0 o1 o2 o3 o4 o5 o6 hq
 simp only [LOut.brk.injEq, Prod.mk.injEq, Int.toNat_zero, List.drop_zero] at hq
 obtain ⟨_, g0, g1, g2, g3, g4, g5, g6, _, _, _, _, _, _, _, r0, r1, r2, r3, r4, r5, r6⟩ := hq
 subst g0 g1 g2 g3 g4 g5 g6 r0 r1 r2 r3 r4 r5 r6
 rfl
theorem regular_Automaton_into__1.ok (W : World) : CtrOK Go.Proofs.Tryz.prog W 47 regular_Automaton_into__1.C := by
 refine memOK (d := regular_Automaton_into__1.d) (Γ := lookC [(21, regular_set_has.C), (48, regular_Automaton_accepting_1.C), (69, regular_set_put.C)]) (lookC_ok (fun p hp => by
  simp only [List.mem_cons, List.not_mem_nil, or_false] at hp
  rcases hp with rfl | rfl | rfl
  ·exact regular_set_has.ok W
  ·exact regular_Automaton_accepting_1.ok W
  ·exact regular_set_put.ok W)) (Λ := fun c_ s_ => match c_, s_ with | (a, u), (w0, w1, w2, w3, w4, w5, w6) => (regular_Automaton_into__1.Λ a u w0 w1 w2 w3 w4 w5 w6)) (Λr := fun c_ s_ => match c_, s_ with | (a, u), (w0, w1, w2, w3, w4, w5, w6) => (fun _ => none)) ?_
 intro c s hp
 obtain ⟨a, u⟩ := c
 obtain ⟨w0, w1, w2, w3, w4, w5, w6⟩ := s
 refine Eq.mpr ?_ (@regular_Automaton_into__1.main a u w0 w1 w2 w3 w4 w5 w6 hp)
 kernel_rfl
end Go.AL
namespace Go.AL
set_option linter.unusedVariables false
def regular_Automaton_into__2.d : LD := ({ cs := [0, 1], cts := [.nm 7, .nm 8], pts := [(2, .fn 49 [] [.loc 0 0])], vs := [], os := [(0, .plain, [none, none, none])], vts := [.int .i64, .str, .lst (.nm 0)], own := [false, false, false], ro := [0, 1, 2], nx := 1 } : LD)
def regular_Automaton_into__2.L0 : LD := { cs := [11, 12], cts := [.lst (.nm 6), .int .i64], pts := [(2, (.fn 49 [] [(.loc 0 0)])), (4, (.loc 5 0)), (7, (.loc 7 0))], vs := [13], os := [(0, .plain, [none, none, none]), (5, .plain, [none, none, none, none, none, none, none]), (7, .plain, [none, none, none, none, none, none, none])], vts := [.int .i64, .int .i64, .str, .lst (.nm 0), .int .u64, .int .u64, .int .u64, .int .u64, .int .u64, .int .u64, .int .u64, .int .u64, .int .u64, .int .u64, .int .u64, .int .u64, .int .u64, .int .u64], own := [false, false, false, false, false, false, false, false, false, false, false, false, false, false, false, false, false, false], ro := [0, 1, 2, 3, 4, 6, 7, 10, 11, 12], nx := 100 }
def regular_Automaton_into__2.Λ (a : Aut) (u : Bts) (k : Int) (x : ByteArray) (ks : (List Tm)) : Nat → Option (Loop (ElT [.bool])) := fun id =>
 if id = 0 then some (mkLoop regular_Automaton_into__2.L0
  (fun (c_ : (List Edg) × Int) (s_ : Int × Int × ByteArray × (List Tm) × Int × Int × Int × Int × Int × Int × Int × Int × Int × Int × Int × Int × Int × Int) => match c_, s_ with | (l, m), (i, k1, x1, ks1, s0, s1, s2, s3, s4, s5, s6, o0, o1, o2, o3, o4, o5, o6) => l = a.edges ∧ m = l.length ∧ l.length < 9223372036854775808 ∧ 0 ≤ i ∧ i ≤ l.length ∧ (k1 = k ∧ x1 = x ∧ ks1 = ks) ∧ (⟨s0, s1, s2, s3, s4, s5, s6⟩ : Bts) = u)
  (fun (c_ : (List Edg) × Int) (s_ : Int × Int × ByteArray × (List Tm) × Int × Int × Int × Int × Int × Int × Int × Int × Int × Int × Int × Int × Int × Int) => match c_, s_ with | (l, m), (i, k1, x1, ks1, s0, s1, s2, s3, s4, s5, s6, o0, o1, o2, o3, o4, o5, o6) => (l.length - i : Int).toNat)
  (fun (c_ : (List Edg) × Int) (s_ : Int × Int × ByteArray × (List Tm) × Int × Int × Int × Int × Int × Int × Int × Int × Int × Int × Int × Int × Int × Int) => match c_, s_ with | (l, m), (i, k1, x1, ks1, s0, s1, s2, s3, s4, s5, s6, o0, o1, o2, o3, o4, o5, o6) => .brk ((l.length : Int), k1, x1, ks1, s0, s1, s2, s3, s4, s5, s6, (Sp.bstep (fun e => Sp.rreads e ⟨k, x, ks⟩) u (l.drop i.toNat) ⟨o0, o1, o2, o3, o4, o5, o6⟩).b0, (Sp.bstep (fun e => Sp.rreads e ⟨k, x, ks⟩) u (l.drop i.toNat) ⟨o0, o1, o2, o3, o4, o5, o6⟩).b1, (Sp.bstep (fun e => Sp.rreads e ⟨k, x, ks⟩) u (l.drop i.toNat) ⟨o0, o1, o2, o3, o4, o5, o6⟩).b2, (Sp.bstep (fun e => Sp.rreads e ⟨k, x, ks⟩) u (l.drop i.toNat) ⟨o0, o1, o2, o3, o4, o5, o6⟩).b3, (Sp.bstep (fun e => Sp.rreads e ⟨k, x, ks⟩) u (l.drop i.toNat) ⟨o0, o1, o2, o3, o4, o5, o6⟩).b4, (Sp.bstep (fun e => Sp.rreads e ⟨k, x, ks⟩) u (l.drop i.toNat) ⟨o0, o1, o2, o3, o4, o5, o6⟩).b5, (Sp.bstep (fun e => Sp.rreads e ⟨k, x, ks⟩) u (l.drop i.toNat) ⟨o0, o1, o2, o3, o4, o5, o6⟩).b6)) [] false) else
 none
def regular_Automaton_into__2.C : Ctr := memCtr regular_Automaton_into__2.d [.nm 8] (some (fun (c_ : ElT [.nm 7, .nm 8]) (s_ : ElT [.int .i64, .str, .lst (.nm 0)]) => match c_, s_ with | (a, u), (k, x, ks) => ∀ e ∈ a.edges, Sp.okE e)) (fun (c_ : ElT [.nm 7, .nm 8]) (s_ : ElT [.int .i64, .str, .lst (.nm 0)]) => match c_, s_ with | (a, u), (k, x, ks) => ((Sp.binto a.edges u (fun e => Sp.rreads e ⟨k, x, ks⟩), (k, x, ks))))
end Go.AL
namespace Go.AL
set_option linter.unusedVariables false
set_option maxRecDepth 10000
def regular_Automaton_into__2.l0 (a : Aut) (k : Int) (x : ByteArray) (ks : (List Tm)) (u : Bts) : Prop :=
 (∀ l : (List Edg), (∀ i : Int, (∀ i1 : Int, (∀ i2 : Int, (∀ s : ByteArray, (∀ l1 : (List Tm), (∀ i3 : Int, (∀ i4 : Int, (∀ i5 : Int, (∀ i6 : Int, (∀ i7 : Int, (∀ i8 : Int, (∀ i9 : Int, (∀ i10 : Int, (∀ i11 : Int, (∀ i12 : Int, (∀ i13 : Int, (∀ i14 : Int, (∀ i15 : Int, (∀ i16 : Int, (((l=(Aut.edges a))∧((i=(↑(List.length l) : Int))∧(((List.length l) < 9223372036854775808)∧((0≤i1)∧((i1≤(↑(List.length l) : Int))∧(((i2=k)∧((s=x)∧(l1=ks)))∧((Bts.mk i3 i4 i5 i6 i7 i8 i9)=u)))))))→(ifB (decide (i1 < i)) (((0≤i1)∧(i1 < (↑(List.length l) : Int)))∧(((0≤(Edg.dst (nth default l i1)))∧((Edg.dst (nth default l i1)) < 400))∧(∀ b : Bool, (((Sp.bhas (Bts.mk i3 i4 i5 i6 i7 i8 i9) (Edg.dst (nth default l i1)))=b)→(((b=true)→(((1≤(Edg.kind (nth default l i1)))∧((Edg.kind (nth default l i1))≤5))∧(∀ b1 : Bool, (∀ i17 : Int, (∀ s1 : ByteArray, (∀ l2 : (List Tm), ((((Sp.rreads (Edg.mk (Edg.src (nth default l i1)) (Edg.dst (nth default l i1)) (Edg.kind (nth default l i1)) (Tm.mk (Tm.kind (Edg.sym (nth default l i1))) (Tm.text (Edg.sym (nth default l i1))) (Tm.kids (Edg.sym (nth default l i1)))) (Edg.exc (nth default l i1)) (Edg.inner (nth default l i1))) (Tm.mk i2 s l1)), (i2, (s, l1)))=(b1, (i17, (s1, l2))))→(ifB (b && b1) (((0≤(Edg.src (nth default l i1)))∧((Edg.src (nth default l i1)) < 400))∧(∀ i18 : Int, (∀ i19 : Int, (∀ i20 : Int, (∀ i21 : Int, (∀ i22 : Int, (∀ i23 : Int, (∀ i24 : Int, ((((), ((Bts.b0 (Sp.bput (Bts.mk i10 i11 i12 i13 i14 i15 i16) (Edg.src (nth default l i1)))), ((Bts.b1 (Sp.bput (Bts.mk i10 i11 i12 i13 i14 i15 i16) (Edg.src (nth default l i1)))), ((Bts.b2 (Sp.bput (Bts.mk i10 i11 i12 i13 i14 i15 i16) (Edg.src (nth default l i1)))), ((Bts.b3 (Sp.bput (Bts.mk i10 i11 i12 i13 i14 i15 i16) (Edg.src (nth default l i1)))), ((Bts.b4 (Sp.bput (Bts.mk i10 i11 i12 i13 i14 i15 i16) (Edg.src (nth default l i1)))), ((Bts.b5 (Sp.bput (Bts.mk i10 i11 i12 i13 i14 i15 i16) (Edg.src (nth default l i1)))), (Bts.b6 (Sp.bput (Bts.mk i10 i11 i12 i13 i14 i15 i16) (Edg.src (nth default l i1)))))))))))=((), (i18, (i19, (i20, (i21, (i22, (i23, i24))))))))→((inR .i64 (i1 + 1))∧(((l=(Aut.edges a))∧((i=(↑(List.length l) : Int))∧(((List.length l) < 9223372036854775808)∧((0≤(i1 + 1))∧(((i1 + 1)≤(↑(List.length l) : Int))∧(((i17=k)∧((s1=x)∧(l2=ks)))∧((Bts.mk i3 i4 i5 i6 i7 i8 i9)=u)))))))∧(((Int.toNat ((↑(List.length l) : Int) - (i1 + 1))) < (Int.toNat ((↑(List.length l) : Int) - i1)))∧(((LOut.brk ((↑(List.length l) : Int), (i17, (s1, (l2, (i3, (i4, (i5, (i6, (i7, (i8, (i9, ((Bts.b0 (Sp.bstep (fun x1 : Edg => (Sp.rreads x1 (Tm.mk k x ks))) u (List.drop (Int.toNat (i1 + 1)) l) (Bts.mk i18 i19 i20 i21 i22 i23 i24))), ((Bts.b1 (Sp.bstep (fun x1 : Edg => (Sp.rreads x1 (Tm.mk k x ks))) u (List.drop (Int.toNat (i1 + 1)) l) (Bts.mk i18 i19 i20 i21 i22 i23 i24))), ((Bts.b2 (Sp.bstep (fun x1 : Edg => (Sp.rreads x1 (Tm.mk k x ks))) u (List.drop (Int.toNat (i1 + 1)) l) (Bts.mk i18 i19 i20 i21 i22 i23 i24))), ((Bts.b3 (Sp.bstep (fun x1 : Edg => (Sp.rreads x1 (Tm.mk k x ks))) u (List.drop (Int.toNat (i1 + 1)) l) (Bts.mk i18 i19 i20 i21 i22 i23 i24))), ((Bts.b4 (Sp.bstep (fun x1 : Edg => (Sp.rreads x1 (Tm.mk k x ks))) u (List.drop (Int.toNat (i1 + 1)) l) (Bts.mk i18 i19 i20 i21 i22 i23 i24))), ((Bts.b5 (Sp.bstep (fun x1 : Edg => (Sp.rreads x1 (Tm.mk k x ks))) u (List.drop (Int.toNat (i1 + 1)) l) (Bts.mk i18 i19 i20 i21 i22 i23 i24))), (Bts.b6 (Sp.bstep (fun x1 : Edg => (Sp.rreads x1 (Tm.mk k x ks))) u (List.drop (Int.toNat (i1 + 1)) l) (Bts.mk i18 i19 i20 i21 i22 i23 i24))))))))))))))))))))) : (LOut (Int × (Int × (ByteArray × ((List Tm) × (Int × (Int × (Int × (Int × (Int × (Int × (Int × (Int × (Int × (Int × (Int × (Int × (Int × Int))))))))))))))))) Bool))=(LOut.brk ((↑(List.length l) : Int), (i2, (s, (l1, (i3, (i4, (i5, (i6, (i7, (i8, (i9, ((Bts.b0 (Sp.bstep (fun x1 : Edg => (Sp.rreads x1 (Tm.mk k x ks))) u (List.drop (Int.toNat i1) l) (Bts.mk i10 i11 i12 i13 i14 i15 i16))), ((Bts.b1 (Sp.bstep (fun x1 : Edg => (Sp.rreads x1 (Tm.mk k x ks))) u (List.drop (Int.toNat i1) l) (Bts.mk i10 i11 i12 i13 i14 i15 i16))), ((Bts.b2 (Sp.bstep (fun x1 : Edg => (Sp.rreads x1 (Tm.mk k x ks))) u (List.drop (Int.toNat i1) l) (Bts.mk i10 i11 i12 i13 i14 i15 i16))), ((Bts.b3 (Sp.bstep (fun x1 : Edg => (Sp.rreads x1 (Tm.mk k x ks))) u (List.drop (Int.toNat i1) l) (Bts.mk i10 i11 i12 i13 i14 i15 i16))), ((Bts.b4 (Sp.bstep (fun x1 : Edg => (Sp.rreads x1 (Tm.mk k x ks))) u (List.drop (Int.toNat i1) l) (Bts.mk i10 i11 i12 i13 i14 i15 i16))), ((Bts.b5 (Sp.bstep (fun x1 : Edg => (Sp.rreads x1 (Tm.mk k x ks))) u (List.drop (Int.toNat i1) l) (Bts.mk i10 i11 i12 i13 i14 i15 i16))), (Bts.b6 (Sp.bstep (fun x1 : Edg => (Sp.rreads x1 (Tm.mk k x ks))) u (List.drop (Int.toNat i1) l) (Bts.mk i10 i11 i12 i13 i14 i15 i16)))))))))))))))))))))))))))))))))) ((inR .i64 (i1 + 1))∧(((l=(Aut.edges a))∧((i=(↑(List.length l) : Int))∧(((List.length l) < 9223372036854775808)∧((0≤(i1 + 1))∧(((i1 + 1)≤(↑(List.length l) : Int))∧(((i17=k)∧((s1=x)∧(l2=ks)))∧((Bts.mk i3 i4 i5 i6 i7 i8 i9)=u)))))))∧(((Int.toNat ((↑(List.length l) : Int) - (i1 + 1))) < (Int.toNat ((↑(List.length l) : Int) - i1)))∧(((LOut.brk ((↑(List.length l) : Int), (i17, (s1, (l2, (i3, (i4, (i5, (i6, (i7, (i8, (i9, ((Bts.b0 (Sp.bstep (fun x1 : Edg => (Sp.rreads x1 (Tm.mk k x ks))) u (List.drop (Int.toNat (i1 + 1)) l) (Bts.mk i10 i11 i12 i13 i14 i15 i16))), ((Bts.b1 (Sp.bstep (fun x1 : Edg => (Sp.rreads x1 (Tm.mk k x ks))) u (List.drop (Int.toNat (i1 + 1)) l) (Bts.mk i10 i11 i12 i13 i14 i15 i16))), ((Bts.b2 (Sp.bstep (fun x1 : Edg => (Sp.rreads x1 (Tm.mk k x ks))) u (List.drop (Int.toNat (i1 + 1)) l) (Bts.mk i10 i11 i12 i13 i14 i15 i16))), ((Bts.b3 (Sp.bstep (fun x1 : Edg => (Sp.rreads x1 (Tm.mk k x ks))) u (List.drop (Int.toNat (i1 + 1)) l) (Bts.mk i10 i11 i12 i13 i14 i15 i16))), ((Bts.b4 (Sp.bstep (fun x1 : Edg => (Sp.rreads x1 (Tm.mk k x ks))) u (List.drop (Int.toNat (i1 + 1)) l) (Bts.mk i10 i11 i12 i13 i14 i15 i16))), ((Bts.b5 (Sp.bstep (fun x1 : Edg => (Sp.rreads x1 (Tm.mk k x ks))) u (List.drop (Int.toNat (i1 + 1)) l) (Bts.mk i10 i11 i12 i13 i14 i15 i16))), (Bts.b6 (Sp.bstep (fun x1 : Edg => (Sp.rreads x1 (Tm.mk k x ks))) u (List.drop (Int.toNat (i1 + 1)) l) (Bts.mk i10 i11 i12 i13 i14 i15 i16))))))))))))))))))))) : (LOut (Int × (Int × (ByteArray × ((List Tm) × (Int × (Int × (Int × (Int × (Int × (Int × (Int × (Int × (Int × (Int × (Int × (Int × (Int × Int))))))))))))))))) Bool))=(LOut.brk ((↑(List.length l) : Int), (i2, (s, (l1, (i3, (i4, (i5, (i6, (i7, (i8, (i9, ((Bts.b0 (Sp.bstep (fun x1 : Edg => (Sp.rreads x1 (Tm.mk k x ks))) u (List.drop (Int.toNat i1) l) (Bts.mk i10 i11 i12 i13 i14 i15 i16))), ((Bts.b1 (Sp.bstep (fun x1 : Edg => (Sp.rreads x1 (Tm.mk k x ks))) u (List.drop (Int.toNat i1) l) (Bts.mk i10 i11 i12 i13 i14 i15 i16))), ((Bts.b2 (Sp.bstep (fun x1 : Edg => (Sp.rreads x1 (Tm.mk k x ks))) u (List.drop (Int.toNat i1) l) (Bts.mk i10 i11 i12 i13 i14 i15 i16))), ((Bts.b3 (Sp.bstep (fun x1 : Edg => (Sp.rreads x1 (Tm.mk k x ks))) u (List.drop (Int.toNat i1) l) (Bts.mk i10 i11 i12 i13 i14 i15 i16))), ((Bts.b4 (Sp.bstep (fun x1 : Edg => (Sp.rreads x1 (Tm.mk k x ks))) u (List.drop (Int.toNat i1) l) (Bts.mk i10 i11 i12 i13 i14 i15 i16))), ((Bts.b5 (Sp.bstep (fun x1 : Edg => (Sp.rreads x1 (Tm.mk k x ks))) u (List.drop (Int.toNat i1) l) (Bts.mk i10 i11 i12 i13 i14 i15 i16))), (Bts.b6 (Sp.bstep (fun x1 : Edg => (Sp.rreads x1 (Tm.mk k x ks))) u (List.drop (Int.toNat i1) l) (Bts.mk i10 i11 i12 i13 i14 i15 i16)))))))))))))))))))))))))))))))))∧((b=(!true))→(ifB (b && false) (((0≤(Edg.src (nth default l i1)))∧((Edg.src (nth default l i1)) < 400))∧(∀ i17 : Int, (∀ i18 : Int, (∀ i19 : Int, (∀ i20 : Int, (∀ i21 : Int, (∀ i22 : Int, (∀ i23 : Int, ((((), ((Bts.b0 (Sp.bput (Bts.mk i10 i11 i12 i13 i14 i15 i16) (Edg.src (nth default l i1)))), ((Bts.b1 (Sp.bput (Bts.mk i10 i11 i12 i13 i14 i15 i16) (Edg.src (nth default l i1)))), ((Bts.b2 (Sp.bput (Bts.mk i10 i11 i12 i13 i14 i15 i16) (Edg.src (nth default l i1)))), ((Bts.b3 (Sp.bput (Bts.mk i10 i11 i12 i13 i14 i15 i16) (Edg.src (nth default l i1)))), ((Bts.b4 (Sp.bput (Bts.mk i10 i11 i12 i13 i14 i15 i16) (Edg.src (nth default l i1)))), ((Bts.b5 (Sp.bput (Bts.mk i10 i11 i12 i13 i14 i15 i16) (Edg.src (nth default l i1)))), (Bts.b6 (Sp.bput (Bts.mk i10 i11 i12 i13 i14 i15 i16) (Edg.src (nth default l i1)))))))))))=((), (i17, (i18, (i19, (i20, (i21, (i22, i23))))))))→((inR .i64 (i1 + 1))∧(((l=(Aut.edges a))∧((i=(↑(List.length l) : Int))∧(((List.length l) < 9223372036854775808)∧((0≤(i1 + 1))∧(((i1 + 1)≤(↑(List.length l) : Int))∧(((i2=k)∧((s=x)∧(l1=ks)))∧((Bts.mk i3 i4 i5 i6 i7 i8 i9)=u)))))))∧(((Int.toNat ((↑(List.length l) : Int) - (i1 + 1))) < (Int.toNat ((↑(List.length l) : Int) - i1)))∧(((LOut.brk ((↑(List.length l) : Int), (i2, (s, (l1, (i3, (i4, (i5, (i6, (i7, (i8, (i9, ((Bts.b0 (Sp.bstep (fun x1 : Edg => (Sp.rreads x1 (Tm.mk k x ks))) u (List.drop (Int.toNat (i1 + 1)) l) (Bts.mk i17 i18 i19 i20 i21 i22 i23))), ((Bts.b1 (Sp.bstep (fun x1 : Edg => (Sp.rreads x1 (Tm.mk k x ks))) u (List.drop (Int.toNat (i1 + 1)) l) (Bts.mk i17 i18 i19 i20 i21 i22 i23))), ((Bts.b2 (Sp.bstep (fun x1 : Edg => (Sp.rreads x1 (Tm.mk k x ks))) u (List.drop (Int.toNat (i1 + 1)) l) (Bts.mk i17 i18 i19 i20 i21 i22 i23))), ((Bts.b3 (Sp.bstep (fun x1 : Edg => (Sp.rreads x1 (Tm.mk k x ks))) u (List.drop (Int.toNat (i1 + 1)) l) (Bts.mk i17 i18 i19 i20 i21 i22 i23))), ((Bts.b4 (Sp.bstep (fun x1 : Edg => (Sp.rreads x1 (Tm.mk k x ks))) u (List.drop (Int.toNat (i1 + 1)) l) (Bts.mk i17 i18 i19 i20 i21 i22 i23))), ((Bts.b5 (Sp.bstep (fun x1 : Edg => (Sp.rreads x1 (Tm.mk k x ks))) u (List.drop (Int.toNat (i1 + 1)) l) (Bts.mk i17 i18 i19 i20 i21 i22 i23))), (Bts.b6 (Sp.bstep (fun x1 : Edg => (Sp.rreads x1 (Tm.mk k x ks))) u (List.drop (Int.toNat (i1 + 1)) l) (Bts.mk i17 i18 i19 i20 i21 i22 i23))))))))))))))))))))) : (LOut (Int × (Int × (ByteArray × ((List Tm) × (Int × (Int × (Int × (Int × (Int × (Int × (Int × (Int × (Int × (Int × (Int × (Int × (Int × Int))))))))))))))))) Bool))=(LOut.brk ((↑(List.length l) : Int), (i2, (s, (l1, (i3, (i4, (i5, (i6, (i7, (i8, (i9, ((Bts.b0 (Sp.bstep (fun x1 : Edg => (Sp.rreads x1 (Tm.mk k x ks))) u (List.drop (Int.toNat i1) l) (Bts.mk i10 i11 i12 i13 i14 i15 i16))), ((Bts.b1 (Sp.bstep (fun x1 : Edg => (Sp.rreads x1 (Tm.mk k x ks))) u (List.drop (Int.toNat i1) l) (Bts.mk i10 i11 i12 i13 i14 i15 i16))), ((Bts.b2 (Sp.bstep (fun x1 : Edg => (Sp.rreads x1 (Tm.mk k x ks))) u (List.drop (Int.toNat i1) l) (Bts.mk i10 i11 i12 i13 i14 i15 i16))), ((Bts.b3 (Sp.bstep (fun x1 : Edg => (Sp.rreads x1 (Tm.mk k x ks))) u (List.drop (Int.toNat i1) l) (Bts.mk i10 i11 i12 i13 i14 i15 i16))), ((Bts.b4 (Sp.bstep (fun x1 : Edg => (Sp.rreads x1 (Tm.mk k x ks))) u (List.drop (Int.toNat i1) l) (Bts.mk i10 i11 i12 i13 i14 i15 i16))), ((Bts.b5 (Sp.bstep (fun x1 : Edg => (Sp.rreads x1 (Tm.mk k x ks))) u (List.drop (Int.toNat i1) l) (Bts.mk i10 i11 i12 i13 i14 i15 i16))), (Bts.b6 (Sp.bstep (fun x1 : Edg => (Sp.rreads x1 (Tm.mk k x ks))) u (List.drop (Int.toNat i1) l) (Bts.mk i10 i11 i12 i13 i14 i15 i16)))))))))))))))))))))))))))))))))) ((inR .i64 (i1 + 1))∧(((l=(Aut.edges a))∧((i=(↑(List.length l) : Int))∧(((List.length l) < 9223372036854775808)∧((0≤(i1 + 1))∧(((i1 + 1)≤(↑(List.length l) : Int))∧(((i2=k)∧((s=x)∧(l1=ks)))∧((Bts.mk i3 i4 i5 i6 i7 i8 i9)=u)))))))∧(((Int.toNat ((↑(List.length l) : Int) - (i1 + 1))) < (Int.toNat ((↑(List.length l) : Int) - i1)))∧(((LOut.brk ((↑(List.length l) : Int), (i2, (s, (l1, (i3, (i4, (i5, (i6, (i7, (i8, (i9, ((Bts.b0 (Sp.bstep (fun x1 : Edg => (Sp.rreads x1 (Tm.mk k x ks))) u (List.drop (Int.toNat (i1 + 1)) l) (Bts.mk i10 i11 i12 i13 i14 i15 i16))), ((Bts.b1 (Sp.bstep (fun x1 : Edg => (Sp.rreads x1 (Tm.mk k x ks))) u (List.drop (Int.toNat (i1 + 1)) l) (Bts.mk i10 i11 i12 i13 i14 i15 i16))), ((Bts.b2 (Sp.bstep (fun x1 : Edg => (Sp.rreads x1 (Tm.mk k x ks))) u (List.drop (Int.toNat (i1 + 1)) l) (Bts.mk i10 i11 i12 i13 i14 i15 i16))), ((Bts.b3 (Sp.bstep (fun x1 : Edg => (Sp.rreads x1 (Tm.mk k x ks))) u (List.drop (Int.toNat (i1 + 1)) l) (Bts.mk i10 i11 i12 i13 i14 i15 i16))), ((Bts.b4 (Sp.bstep (fun x1 : Edg => (Sp.rreads x1 (Tm.mk k x ks))) u (List.drop (Int.toNat (i1 + 1)) l) (Bts.mk i10 i11 i12 i13 i14 i15 i16))), ((Bts.b5 (Sp.bstep (fun x1 : Edg => (Sp.rreads x1 (Tm.mk k x ks))) u (List.drop (Int.toNat (i1 + 1)) l) (Bts.mk i10 i11 i12 i13 i14 i15 i16))), (Bts.b6 (Sp.bstep (fun x1 : Edg => (Sp.rreads x1 (Tm.mk k x ks))) u (List.drop (Int.toNat (i1 + 1)) l) (Bts.mk i10 i11 i12 i13 i14 i15 i16))))))))))))))))))))) : (LOut (Int × (Int × (ByteArray × ((List Tm) × (Int × (Int × (Int × (Int × (Int × (Int × (Int × (Int × (Int × (Int × (Int × (Int × (Int × Int))))))))))))))))) Bool))=(LOut.brk ((↑(List.length l) : Int), (i2, (s, (l1, (i3, (i4, (i5, (i6, (i7, (i8, (i9, ((Bts.b0 (Sp.bstep (fun x1 : Edg => (Sp.rreads x1 (Tm.mk k x ks))) u (List.drop (Int.toNat i1) l) (Bts.mk i10 i11 i12 i13 i14 i15 i16))), ((Bts.b1 (Sp.bstep (fun x1 : Edg => (Sp.rreads x1 (Tm.mk k x ks))) u (List.drop (Int.toNat i1) l) (Bts.mk i10 i11 i12 i13 i14 i15 i16))), ((Bts.b2 (Sp.bstep (fun x1 : Edg => (Sp.rreads x1 (Tm.mk k x ks))) u (List.drop (Int.toNat i1) l) (Bts.mk i10 i11 i12 i13 i14 i15 i16))), ((Bts.b3 (Sp.bstep (fun x1 : Edg => (Sp.rreads x1 (Tm.mk k x ks))) u (List.drop (Int.toNat i1) l) (Bts.mk i10 i11 i12 i13 i14 i15 i16))), ((Bts.b4 (Sp.bstep (fun x1 : Edg => (Sp.rreads x1 (Tm.mk k x ks))) u (List.drop (Int.toNat i1) l) (Bts.mk i10 i11 i12 i13 i14 i15 i16))), ((Bts.b5 (Sp.bstep (fun x1 : Edg => (Sp.rreads x1 (Tm.mk k x ks))) u (List.drop (Int.toNat i1) l) (Bts.mk i10 i11 i12 i13 i14 i15 i16))), (Bts.b6 (Sp.bstep (fun x1 : Edg => (Sp.rreads x1 (Tm.mk k x ks))) u (List.drop (Int.toNat i1) l) (Bts.mk i10 i11 i12 i13 i14 i15 i16)))))))))))))))))))))))))))))))) (((LOut.brk ((↑(List.length l) : Int), (i2, (s, (l1, (i3, (i4, (i5, (i6, (i7, (i8, (i9, ((Bts.b0 (Sp.bstep (fun x1 : Edg => (Sp.rreads x1 (Tm.mk k x ks))) u (List.drop (Int.toNat i1) l) (Bts.mk i10 i11 i12 i13 i14 i15 i16))), ((Bts.b1 (Sp.bstep (fun x1 : Edg => (Sp.rreads x1 (Tm.mk k x ks))) u (List.drop (Int.toNat i1) l) (Bts.mk i10 i11 i12 i13 i14 i15 i16))), ((Bts.b2 (Sp.bstep (fun x1 : Edg => (Sp.rreads x1 (Tm.mk k x ks))) u (List.drop (Int.toNat i1) l) (Bts.mk i10 i11 i12 i13 i14 i15 i16))), ((Bts.b3 (Sp.bstep (fun x1 : Edg => (Sp.rreads x1 (Tm.mk k x ks))) u (List.drop (Int.toNat i1) l) (Bts.mk i10 i11 i12 i13 i14 i15 i16))), ((Bts.b4 (Sp.bstep (fun x1 : Edg => (Sp.rreads x1 (Tm.mk k x ks))) u (List.drop (Int.toNat i1) l) (Bts.mk i10 i11 i12 i13 i14 i15 i16))), ((Bts.b5 (Sp.bstep (fun x1 : Edg => (Sp.rreads x1 (Tm.mk k x ks))) u (List.drop (Int.toNat i1) l) (Bts.mk i10 i11 i12 i13 i14 i15 i16))), (Bts.b6 (Sp.bstep (fun x1 : Edg => (Sp.rreads x1 (Tm.mk k x ks))) u (List.drop (Int.toNat i1) l) (Bts.mk i10 i11 i12 i13 i14 i15 i16))))))))))))))))))))) : (LOut (Int × (Int × (ByteArray × ((List Tm) × (Int × (Int × (Int × (Int × (Int × (Int × (Int × (Int × (Int × (Int × (Int × (Int × (Int × Int))))))))))))))))) Bool))=(LOut.brk (i1, (i2, (s, (l1, (i3, (i4, (i5, (i6, (i7, (i8, (i9, (i10, (i11, (i12, (i13, (i14, (i15, i16)))))))))))))))))))))))))))))))))))))))))
def regular_Automaton_into__2.t (a : Aut) (u : Bts) (k : Int) (x : ByteArray) (ks : (List Tm)) : Prop :=
 (((List.length (Aut.edges a)) < 9223372036854775808)→((((Aut.edges a)=(Aut.edges a))∧(((↑(List.length (Aut.edges a)) : Int)=(↑(List.length (Aut.edges a)) : Int))∧(((List.length (Aut.edges a)) < 9223372036854775808)∧(((0 : Int)≤0)∧((0≤(↑(List.length (Aut.edges a)) : Int))∧(((k=k)∧((x=x)∧(ks=ks)))∧((Bts.mk (Bts.b0 u) (Bts.b1 u) (Bts.b2 u) (Bts.b3 u) (Bts.b4 u) (Bts.b5 u) (Bts.b6 u))=u)))))))∧((regular_Automaton_into__2.l0 a k x ks u)∧(∀ i : Int, (∀ i1 : Int, (∀ s : ByteArray, (∀ l : (List Tm), (∀ i2 : Int, (∀ i3 : Int, (∀ i4 : Int, (∀ i5 : Int, (∀ i6 : Int, (∀ i7 : Int, (∀ i8 : Int, (∀ i9 : Int, (∀ i10 : Int, (∀ i11 : Int, (∀ i12 : Int, (∀ i13 : Int, (∀ i14 : Int, (∀ i15 : Int, ((((LOut.brk ((↑(List.length (Aut.edges a)) : Int), (k, (x, (ks, ((Bts.b0 u), ((Bts.b1 u), ((Bts.b2 u), ((Bts.b3 u), ((Bts.b4 u), ((Bts.b5 u), ((Bts.b6 u), ((Bts.b0 (Sp.bstep (fun x1 : Edg => (Sp.rreads x1 (Tm.mk k x ks))) u (List.drop (Int.toNat 0) (Aut.edges a)) (Bts.mk 0 0 0 0 0 0 0))), ((Bts.b1 (Sp.bstep (fun x1 : Edg => (Sp.rreads x1 (Tm.mk k x ks))) u (List.drop (Int.toNat 0) (Aut.edges a)) (Bts.mk 0 0 0 0 0 0 0))), ((Bts.b2 (Sp.bstep (fun x1 : Edg => (Sp.rreads x1 (Tm.mk k x ks))) u (List.drop (Int.toNat 0) (Aut.edges a)) (Bts.mk 0 0 0 0 0 0 0))), ((Bts.b3 (Sp.bstep (fun x1 : Edg => (Sp.rreads x1 (Tm.mk k x ks))) u (List.drop (Int.toNat 0) (Aut.edges a)) (Bts.mk 0 0 0 0 0 0 0))), ((Bts.b4 (Sp.bstep (fun x1 : Edg => (Sp.rreads x1 (Tm.mk k x ks))) u (List.drop (Int.toNat 0) (Aut.edges a)) (Bts.mk 0 0 0 0 0 0 0))), ((Bts.b5 (Sp.bstep (fun x1 : Edg => (Sp.rreads x1 (Tm.mk k x ks))) u (List.drop (Int.toNat 0) (Aut.edges a)) (Bts.mk 0 0 0 0 0 0 0))), (Bts.b6 (Sp.bstep (fun x1 : Edg => (Sp.rreads x1 (Tm.mk k x ks))) u (List.drop (Int.toNat 0) (Aut.edges a)) (Bts.mk 0 0 0 0 0 0 0))))))))))))))))))))) : (LOut (Int × (Int × (ByteArray × ((List Tm) × (Int × (Int × (Int × (Int × (Int × (Int × (Int × (Int × (Int × (Int × (Int × (Int × (Int × Int))))))))))))))))) Bool))=(LOut.brk (i, (i1, (s, (l, (i2, (i3, (i4, (i5, (i6, (i7, (i8, (i9, (i10, (i11, (i12, (i13, (i14, i15)))))))))))))))))))→(((Sp.binto (Aut.edges a) u (fun x1 : Edg => (Sp.rreads x1 (Tm.mk k x ks)))), (k, (x, ks)))=((Bts.mk i9 i10 i11 i12 i13 i14 i15), (i1, (s, l))))))))))))))))))))))))))
end Go.AL
namespace Go.AL
set_option linter.unusedVariables false
set_option linter.unusedSimpArgs false
set_option maxRecDepth 10000
attribute [local irreducible] wpF wpFX wpM wpFM
theorem regular_Automaton_into__2.l0_ok (a : Aut) (u : Bts) (k : Int) (x : ByteArray) (ks : List Tm) (ha : ∀ e ∈ a.edges, Sp.okE e) : regular_Automaton_into__2.l0 a k x ks u := by
 rintro l m i k1 x1 ks1 s0 s1 s2 s3 s4 s5 s6 o0 o1 o2 o3 o4 o5 o6 ⟨e1, e2, h3, h1, h2, ⟨f0, f1, f2⟩, hf7⟩
 subst l m k1 x1 ks1
 refine ifD (fun h => ?_) fun h => ?_
 ·have hi : i.toNat < a.edges.length := by omega
  have e1 : (i + 1).toNat = i.toNat + 1 := by omega
  obtain ⟨q1, q2, q3, q4⟩ := ha _ (nth_mem (d := default) hi)
  refine ⟨by omega, q2, ?_⟩
  rintro b hb
  rw [hf7] at hb
  have hk : Sp.bstep (fun e => Sp.rreads e ⟨k, x, ks⟩) u (List.drop i.toNat a.edges) ⟨o0, o1, o2, o3, o4, o5, o6⟩ = Sp.bstep (fun e => Sp.rreads e ⟨k, x, ks⟩) u (List.drop (i.toNat + 1) a.edges) (if (b && Sp.rreads (nth default a.edges i) ⟨k, x, ks⟩) = true then Sp.bput ⟨o0, o1, o2, o3, o4, o5, o6⟩ (nth default a.edges i).src else ⟨o0, o1, o2, o3, o4, o5, o6⟩) := by
   rw [nth_drop (d := default) hi, Sp.bstep, hb]
  refine ⟨fun hbt => ⟨q3, ?_⟩, fun hbf => ?_⟩
  ·rintro b1 c0 c1 c2 hq
   simp only [Prod.mk.injEq] at hq
   obtain ⟨g, g0, g1, g2⟩ := hq
   subst g0 g1 g2
   rw [Tm.eta] at g
   have g' : Sp.rreads (nth default a.edges i) ⟨k, x, ks⟩ = b1 := g
   rw [g'] at hk
   refine ifB_of (fun h4 => ⟨q1, ?_⟩) fun h4 => ⟨inR64 (by omega), ⟨rfl, rfl, h3, by omega, by omega, ⟨rfl, rfl, rfl⟩, hf7⟩, by omega, ?_⟩
   ·rintro p0 p1 p2 p3 p4 p5 p6 hp
    simp only [Prod.mk.injEq, true_and] at hp
    obtain ⟨r0, r1, r2, r3, r4, r5, r6⟩ := hp
    subst r0 r1 r2 r3 r4 r5 r6
    refine ⟨inR64 (by omega), ⟨rfl, rfl, h3, by omega, by omega, ⟨rfl, rfl, rfl⟩, hf7⟩, by omega, ?_⟩
    rw [hk, e1, if_pos h4]
   ·rw [hk, e1, if_neg (by rw [h4]; simp)]
  ·subst hbf
   refine ifB_of (fun h4 => by simp at h4) fun h4 => ⟨inR64 (by omega), ⟨rfl, rfl, h3, by omega, by omega, ⟨rfl, rfl, rfl⟩, hf7⟩, by omega, ?_⟩
   rw [hk, e1, if_neg (by simp)]
 ·rw [List.drop_eq_nil_of_le (by omega), show i = a.edges.length by omega]
  rfl
theorem regular_Automaton_into__2.main (a : Aut) (u : Bts) (k : Int) (x : ByteArray) (ks : List Tm) (ha : ∀ e ∈ a.edges, Sp.okE e) : regular_Automaton_into__2.t a u k x ks := by
 refine fun h => ⟨⟨rfl, rfl, h, by omega, by omega, ⟨rfl, rfl, rfl⟩, rfl⟩, regular_Automaton_into__2.l0_ok a u k x ks ha, ?_⟩
 rintro i c0 c1 c2 s0 s1 s2 s3 s4 s5 s6 o0 o1 o2 o3 o4 o5 o6 hq
 simp only [LOut.brk.injEq, Prod.mk.injEq, Int.toNat_zero, List.drop_zero] at hq
 obtain ⟨_, g0, g1, g2, _, _, _, _, _, _, _, r0, r1, r2, r3, r4, r5, r6⟩ := hq
 subst g0 g1 g2 r0 r1 r2 r3 r4 r5 r6
 rfl
theorem regular_Automaton_into__2.ok (W : World) : CtrOK Go.Proofs.Tryz.prog W 47 regular_Automaton_into__2.C := by
 refine memOK (d := regular_Automaton_into__2.d) (Γ := lookC [(21, regular_set_has.C), (49, regular_Automaton_accepting_2.C), (69, regular_set_put.C)]) (lookC_ok (fun p hp => by
  simp only [List.mem_cons, List.not_mem_nil, or_false] at hp
  rcases hp with rfl | rfl | rfl
  ·exact regular_set_has.ok W
  ·exact regular_Automaton_accepting_2.ok W
  ·exact regular_set_put.ok W)) (Λ := fun c_ s_ => match c_, s_ with | (a, u), (k, x, ks) => (regular_Automaton_into__2.Λ a u k x ks)) (Λr := fun c_ s_ => match c_, s_ with | (a, u), (k, x, ks) => (fun _ => none)) ?_
 intro c s hp
 obtain ⟨a, u⟩ := c
 obtain ⟨k, x, ks⟩ := s
 refine Eq.mpr ?_ (@regular_Automaton_into__2.main a u k x ks hp)
 kernel_rfl
end Go.AL
namespace Go.AL
set_option linter.unusedVariables false
end Go.AL
namespace Sp
open Go.AL
def bnext (a : Aut) (s : Bts) (t : Tm) : Bts := if t.kind = 4 then binto a.edges s (inn1 (baccL a t.kids)) else binto a.edges s (fun e => rreads e t)
def brun (a : Aut) (l : List (Int × Tm)) (s : Bts) : Bts := l.foldl (fun s p => bnext a s p.2) s
end Sp
namespace Go.AL
def isFnB (g : Nat) : VV → Bool
 | .fn f _ _ => f == g
 | _ => false
def altCtrB (g k : Nat) (c1 c2 : Ctr) : Ctr where
 pv vs := match (vs[k]?).any (isFnB g) with
  | true => c1.pv vs
  | false => c2.pv vs
 run vs st K := match (vs[k]?).any (isFnB g) with
  | true => c1.run vs st K
  | false => c2.run vs st K
theorem altCtrB_ok {P : Program} {W : World} {f g k : Nat} {c1 c2 : Ctr} (h1 : CtrOK P W f c1) (h2 : CtrOK P W f c2) : CtrOK P W f (altCtrB g k c1 c2) := by
 constructor
 ·intro vs pv h
  simp only [altCtrB] at h
  split at h
  ·exact h1.pv vs pv h
  ·exact h2.pv vs pv h
 ·intro vs st K h
  simp only [altCtrB] at h
  split at h
  ·exact h1.run vs st K h
  ·exact h2.run vs st K h
def regular_Automaton_into__alt.C : Ctr := altCtrB 48 2 regular_Automaton_into__1.C regular_Automaton_into__2.C
def slices_Backward__t.C : Ctr := TB.C
def regular_Automaton_accepting.L0 : LD := { cs := [], cts := [], pts := [(2, (.loc 0 0)), (5, (.loc 2 0))], vs := [], os := [(0, .plain, [none, none, none, none]), (2, .plain, [none, none, none, none, none, none, none])], vts := [.int .i64, .int .i64, .lst (.int .i64), .lst (.nm 6), .int .u64, .int .u64, .int .u64, .int .u64, .int .u64, .int .u64, .int .u64], own := [false, false, false, false, false, false, false, false, false, false, false], ro := [0, 1, 2, 4, 9, 10, 5, 11, 12], nx := 100 }
def regular_Automaton_accepting.Ρ (a : Aut) (v : (List Tm)) : Nat → Option (RLoop (ElT [.nm 8])) := fun id =>
 if id = 0 then some (mkRLoop regular_Automaton_accepting.L0 (.pair (.int .i64) (.nm 0))
  (fun (c_ : Unit) (xs : List (Int × Tm)) (s_ : Int × Int × (List Int) × (List Edg) × Int × Int × Int × Int × Int × Int × Int) => match c_, s_ with | (), (n, st, fin, ed, s0, s1, s2, s3, s4, s5, s6) => n = a.states ∧ st = a.start ∧ fin = a.final ∧ ed = a.edges ∧ ∀ p ∈ xs, p.2 ∈ v)
  (fun (c_ : Unit) (xs : List (Int × Tm)) (s_ : Int × Int × (List Int) × (List Edg) × Int × Int × Int × Int × Int × Int × Int) => match c_, s_ with | (), (n, st, fin, ed, s0, s1, s2, s3, s4, s5, s6) => .brk (n, st, fin, ed, (Sp.brun a xs ⟨s0, s1, s2, s3, s4, s5, s6⟩).b0, (Sp.brun a xs ⟨s0, s1, s2, s3, s4, s5, s6⟩).b1, (Sp.brun a xs ⟨s0, s1, s2, s3, s4, s5, s6⟩).b2, (Sp.brun a xs ⟨s0, s1, s2, s3, s4, s5, s6⟩).b3, (Sp.brun a xs ⟨s0, s1, s2, s3, s4, s5, s6⟩).b4, (Sp.brun a xs ⟨s0, s1, s2, s3, s4, s5, s6⟩).b5, (Sp.brun a xs ⟨s0, s1, s2, s3, s4, s5, s6⟩).b6)) [] false) else
 none
def regular_Automaton_accepting.C : Ctr := pureCtr [.nm 7, .lst (.nm 0)] [.nm 8] (some (fun (a_ : Aut × (List Tm)) => match a_ with | (a, v) => (∀ f ∈ a.final, 0 ≤ f ∧ f < 400) ∧ ∀ e ∈ a.edges, Sp.okE e)) (fun (a_ : Aut × (List Tm)) => match a_ with | (a, v) => (Sp.baccL a v))
def regular_Has.C : Ctr := pureCtr [.nm 7, .lst (.nm 0)] [.bool, .int .i64] (some (fun (a_ : Aut × (List Tm)) => match a_ with | (a, v) => Sp.okA a ∧ Sp.okL v)) (fun (a_ : Aut × (List Tm)) => match a_ with | (a, v) => ((if Sp.rcheck a = 0 then (if Sp.wrong v 4 = 0 then (Sp.bhas (Sp.baccL a v) a.start, 0) else (false, Sp.wrong v 4)) else (false, Sp.rcheck a))))
end Go.AL
namespace Go.AL
set_option linter.unusedVariables false
set_option maxRecDepth 10000
def regular_Automaton_accepting.l0 (a : Aut) (v : (List Tm)) : Prop :=
 (∀ x1 : (Int × Tm), (∀ l : (List (Int × Tm)), (∀ i : Int, (∀ i1 : Int, (∀ l1 : (List Int), (∀ l2 : (List Edg), (∀ i2 : Int, (∀ i3 : Int, (∀ i4 : Int, (∀ i5 : Int, (∀ i6 : Int, (∀ i7 : Int, (∀ i8 : Int, (((i=(Aut.states a))∧((i1=(Aut.start a))∧((l1=(Aut.final a))∧((l2=(Aut.edges a))∧(∀ x2 : (Int × Tm), ((Membership.mem (x1 :: l) x2)→(Membership.mem v (Prod.snd x2))))))))→(ifB (decide ((Tm.kind (Prod.snd x1))=4)) ((((∀ i9 : Int, ((Membership.mem l1 i9)→((0≤i9)∧(i9 < 400))))∧(∀ x2 : Edg, ((Membership.mem l2 x2)→(Sp.okE x2))))∧((Sp.nodesL (Tm.kids (Prod.snd x1))) < (Sp.nodesL v)))∧(∀ x2 : Bts, (((Sp.baccL (Aut.mk i i1 l1 l2) (Tm.kids (Prod.snd x1)))=x2)→((∀ x3 : Edg, ((Membership.mem l2 x3)→(Sp.okE x3)))∧(∀ x3 : Bts, (∀ i9 : Int, (∀ i10 : Int, (∀ i11 : Int, (∀ i12 : Int, (∀ i13 : Int, (∀ i14 : Int, (∀ i15 : Int, ((((Sp.binto l2 (Bts.mk i2 i3 i4 i5 i6 i7 i8) (Sp.inn1 (Bts.mk (Bts.b0 x2) (Bts.b1 x2) (Bts.b2 x2) (Bts.b3 x2) (Bts.b4 x2) (Bts.b5 x2) (Bts.b6 x2)))), ((Bts.b0 x2), ((Bts.b1 x2), ((Bts.b2 x2), ((Bts.b3 x2), ((Bts.b4 x2), ((Bts.b5 x2), (Bts.b6 x2))))))))=(x3, (i9, (i10, (i11, (i12, (i13, (i14, i15))))))))→(((i=(Aut.states a))∧((i1=(Aut.start a))∧((l1=(Aut.final a))∧((l2=(Aut.edges a))∧(∀ x4 : (Int × Tm), ((Membership.mem l x4)→(Membership.mem v (Prod.snd x4))))))))∧(((LOut.brk (i, (i1, (l1, (l2, ((Bts.b0 (Sp.brun a l (Bts.mk (Bts.b0 x3) (Bts.b1 x3) (Bts.b2 x3) (Bts.b3 x3) (Bts.b4 x3) (Bts.b5 x3) (Bts.b6 x3)))), ((Bts.b1 (Sp.brun a l (Bts.mk (Bts.b0 x3) (Bts.b1 x3) (Bts.b2 x3) (Bts.b3 x3) (Bts.b4 x3) (Bts.b5 x3) (Bts.b6 x3)))), ((Bts.b2 (Sp.brun a l (Bts.mk (Bts.b0 x3) (Bts.b1 x3) (Bts.b2 x3) (Bts.b3 x3) (Bts.b4 x3) (Bts.b5 x3) (Bts.b6 x3)))), ((Bts.b3 (Sp.brun a l (Bts.mk (Bts.b0 x3) (Bts.b1 x3) (Bts.b2 x3) (Bts.b3 x3) (Bts.b4 x3) (Bts.b5 x3) (Bts.b6 x3)))), ((Bts.b4 (Sp.brun a l (Bts.mk (Bts.b0 x3) (Bts.b1 x3) (Bts.b2 x3) (Bts.b3 x3) (Bts.b4 x3) (Bts.b5 x3) (Bts.b6 x3)))), ((Bts.b5 (Sp.brun a l (Bts.mk (Bts.b0 x3) (Bts.b1 x3) (Bts.b2 x3) (Bts.b3 x3) (Bts.b4 x3) (Bts.b5 x3) (Bts.b6 x3)))), (Bts.b6 (Sp.brun a l (Bts.mk (Bts.b0 x3) (Bts.b1 x3) (Bts.b2 x3) (Bts.b3 x3) (Bts.b4 x3) (Bts.b5 x3) (Bts.b6 x3))))))))))))))) : (LOut (Int × (Int × ((List Int) × ((List Edg) × (Int × (Int × (Int × (Int × (Int × (Int × Int)))))))))) Bts))=(LOut.brk (i, (i1, (l1, (l2, ((Bts.b0 (Sp.brun a (x1 :: l) (Bts.mk i2 i3 i4 i5 i6 i7 i8))), ((Bts.b1 (Sp.brun a (x1 :: l) (Bts.mk i2 i3 i4 i5 i6 i7 i8))), ((Bts.b2 (Sp.brun a (x1 :: l) (Bts.mk i2 i3 i4 i5 i6 i7 i8))), ((Bts.b3 (Sp.brun a (x1 :: l) (Bts.mk i2 i3 i4 i5 i6 i7 i8))), ((Bts.b4 (Sp.brun a (x1 :: l) (Bts.mk i2 i3 i4 i5 i6 i7 i8))), ((Bts.b5 (Sp.brun a (x1 :: l) (Bts.mk i2 i3 i4 i5 i6 i7 i8))), (Bts.b6 (Sp.brun a (x1 :: l) (Bts.mk i2 i3 i4 i5 i6 i7 i8))))))))))))))))))))))))))))) ((∀ x2 : Edg, ((Membership.mem l2 x2)→(Sp.okE x2)))∧(∀ x2 : Bts, (∀ i9 : Int, (∀ s : ByteArray, (∀ l3 : (List Tm), ((((Sp.binto l2 (Bts.mk i2 i3 i4 i5 i6 i7 i8) (fun x3 : Edg => (Sp.rreads x3 (Tm.mk (Tm.kind (Prod.snd x1)) (Tm.text (Prod.snd x1)) (Tm.kids (Prod.snd x1)))))), ((Tm.kind (Prod.snd x1)), ((Tm.text (Prod.snd x1)), (Tm.kids (Prod.snd x1)))))=(x2, (i9, (s, l3))))→(((i=(Aut.states a))∧((i1=(Aut.start a))∧((l1=(Aut.final a))∧((l2=(Aut.edges a))∧(∀ x3 : (Int × Tm), ((Membership.mem l x3)→(Membership.mem v (Prod.snd x3))))))))∧(((LOut.brk (i, (i1, (l1, (l2, ((Bts.b0 (Sp.brun a l (Bts.mk (Bts.b0 x2) (Bts.b1 x2) (Bts.b2 x2) (Bts.b3 x2) (Bts.b4 x2) (Bts.b5 x2) (Bts.b6 x2)))), ((Bts.b1 (Sp.brun a l (Bts.mk (Bts.b0 x2) (Bts.b1 x2) (Bts.b2 x2) (Bts.b3 x2) (Bts.b4 x2) (Bts.b5 x2) (Bts.b6 x2)))), ((Bts.b2 (Sp.brun a l (Bts.mk (Bts.b0 x2) (Bts.b1 x2) (Bts.b2 x2) (Bts.b3 x2) (Bts.b4 x2) (Bts.b5 x2) (Bts.b6 x2)))), ((Bts.b3 (Sp.brun a l (Bts.mk (Bts.b0 x2) (Bts.b1 x2) (Bts.b2 x2) (Bts.b3 x2) (Bts.b4 x2) (Bts.b5 x2) (Bts.b6 x2)))), ((Bts.b4 (Sp.brun a l (Bts.mk (Bts.b0 x2) (Bts.b1 x2) (Bts.b2 x2) (Bts.b3 x2) (Bts.b4 x2) (Bts.b5 x2) (Bts.b6 x2)))), ((Bts.b5 (Sp.brun a l (Bts.mk (Bts.b0 x2) (Bts.b1 x2) (Bts.b2 x2) (Bts.b3 x2) (Bts.b4 x2) (Bts.b5 x2) (Bts.b6 x2)))), (Bts.b6 (Sp.brun a l (Bts.mk (Bts.b0 x2) (Bts.b1 x2) (Bts.b2 x2) (Bts.b3 x2) (Bts.b4 x2) (Bts.b5 x2) (Bts.b6 x2))))))))))))))) : (LOut (Int × (Int × ((List Int) × ((List Edg) × (Int × (Int × (Int × (Int × (Int × (Int × Int)))))))))) Bts))=(LOut.brk (i, (i1, (l1, (l2, ((Bts.b0 (Sp.brun a (x1 :: l) (Bts.mk i2 i3 i4 i5 i6 i7 i8))), ((Bts.b1 (Sp.brun a (x1 :: l) (Bts.mk i2 i3 i4 i5 i6 i7 i8))), ((Bts.b2 (Sp.brun a (x1 :: l) (Bts.mk i2 i3 i4 i5 i6 i7 i8))), ((Bts.b3 (Sp.brun a (x1 :: l) (Bts.mk i2 i3 i4 i5 i6 i7 i8))), ((Bts.b4 (Sp.brun a (x1 :: l) (Bts.mk i2 i3 i4 i5 i6 i7 i8))), ((Bts.b5 (Sp.brun a (x1 :: l) (Bts.mk i2 i3 i4 i5 i6 i7 i8))), (Bts.b6 (Sp.brun a (x1 :: l) (Bts.mk i2 i3 i4 i5 i6 i7 i8)))))))))))))))))))))))))))))))))))))
def regular_Automaton_accepting.t (a : Aut) (v : (List Tm)) : Prop :=
 ((∀ i : Int, ((Membership.mem (Aut.final a) i)→((0≤i)∧(i < 400))))∧(∀ x : Bts, (((Sp.bfin (Aut.final a) (Bts.mk 0 0 0 0 0 0 0))=x)→((((Aut.states a)=(Aut.states a))∧(((Aut.start a)=(Aut.start a))∧(((Aut.final a)=(Aut.final a))∧(((Aut.edges a)=(Aut.edges a))∧(∀ x1 : (Int × Tm), ((Membership.mem (Sp.backw v) x1)→(Membership.mem v (Prod.snd x1))))))))∧((∀ i : Int, (∀ i1 : Int, (∀ l : (List Int), (∀ l1 : (List Edg), (∀ i2 : Int, (∀ i3 : Int, (∀ i4 : Int, (∀ i5 : Int, (∀ i6 : Int, (∀ i7 : Int, (∀ i8 : Int, (((i=(Aut.states a))∧((i1=(Aut.start a))∧((l=(Aut.final a))∧((l1=(Aut.edges a))∧(∀ x1 : (Int × Tm), ((Membership.mem ([] : (List (Int × Tm))) x1)→(Membership.mem v (Prod.snd x1))))))))→(((LOut.brk (i, (i1, (l, (l1, ((Bts.b0 (Sp.brun a ([] : (List (Int × Tm))) (Bts.mk i2 i3 i4 i5 i6 i7 i8))), ((Bts.b1 (Sp.brun a ([] : (List (Int × Tm))) (Bts.mk i2 i3 i4 i5 i6 i7 i8))), ((Bts.b2 (Sp.brun a ([] : (List (Int × Tm))) (Bts.mk i2 i3 i4 i5 i6 i7 i8))), ((Bts.b3 (Sp.brun a ([] : (List (Int × Tm))) (Bts.mk i2 i3 i4 i5 i6 i7 i8))), ((Bts.b4 (Sp.brun a ([] : (List (Int × Tm))) (Bts.mk i2 i3 i4 i5 i6 i7 i8))), ((Bts.b5 (Sp.brun a ([] : (List (Int × Tm))) (Bts.mk i2 i3 i4 i5 i6 i7 i8))), (Bts.b6 (Sp.brun a ([] : (List (Int × Tm))) (Bts.mk i2 i3 i4 i5 i6 i7 i8)))))))))))))) : (LOut (Int × (Int × ((List Int) × ((List Edg) × (Int × (Int × (Int × (Int × (Int × (Int × Int)))))))))) Bts))=(LOut.brk (i, (i1, (l, (l1, (i2, (i3, (i4, (i5, (i6, (i7, i8))))))))))))))))))))))))∧((regular_Automaton_accepting.l0 a v)∧(∀ i : Int, (∀ i1 : Int, (∀ l : (List Int), (∀ l1 : (List Edg), (∀ i2 : Int, (∀ i3 : Int, (∀ i4 : Int, (∀ i5 : Int, (∀ i6 : Int, (∀ i7 : Int, (∀ i8 : Int, ((((LOut.brk ((Aut.states a), ((Aut.start a), ((Aut.final a), ((Aut.edges a), ((Bts.b0 (Sp.brun a (Sp.backw v) (Bts.mk (Bts.b0 x) (Bts.b1 x) (Bts.b2 x) (Bts.b3 x) (Bts.b4 x) (Bts.b5 x) (Bts.b6 x)))), ((Bts.b1 (Sp.brun a (Sp.backw v) (Bts.mk (Bts.b0 x) (Bts.b1 x) (Bts.b2 x) (Bts.b3 x) (Bts.b4 x) (Bts.b5 x) (Bts.b6 x)))), ((Bts.b2 (Sp.brun a (Sp.backw v) (Bts.mk (Bts.b0 x) (Bts.b1 x) (Bts.b2 x) (Bts.b3 x) (Bts.b4 x) (Bts.b5 x) (Bts.b6 x)))), ((Bts.b3 (Sp.brun a (Sp.backw v) (Bts.mk (Bts.b0 x) (Bts.b1 x) (Bts.b2 x) (Bts.b3 x) (Bts.b4 x) (Bts.b5 x) (Bts.b6 x)))), ((Bts.b4 (Sp.brun a (Sp.backw v) (Bts.mk (Bts.b0 x) (Bts.b1 x) (Bts.b2 x) (Bts.b3 x) (Bts.b4 x) (Bts.b5 x) (Bts.b6 x)))), ((Bts.b5 (Sp.brun a (Sp.backw v) (Bts.mk (Bts.b0 x) (Bts.b1 x) (Bts.b2 x) (Bts.b3 x) (Bts.b4 x) (Bts.b5 x) (Bts.b6 x)))), (Bts.b6 (Sp.brun a (Sp.backw v) (Bts.mk (Bts.b0 x) (Bts.b1 x) (Bts.b2 x) (Bts.b3 x) (Bts.b4 x) (Bts.b5 x) (Bts.b6 x))))))))))))))) : (LOut (Int × (Int × ((List Int) × ((List Edg) × (Int × (Int × (Int × (Int × (Int × (Int × Int)))))))))) Bts))=(LOut.brk (i, (i1, (l, (l1, (i2, (i3, (i4, (i5, (i6, (i7, i8))))))))))))→((Sp.baccL a v)=(Bts.mk i2 i3 i4 i5 i6 i7 i8))))))))))))))))))))
def regular_Has.t (a : Aut) (v : (List Tm)) : Prop :=
 ((Sp.okA (Aut.mk (Aut.states a) (Aut.start a) (Aut.final a) (Aut.edges a)))∧(∀ i : Int, (((Sp.rcheck (Aut.mk (Aut.states a) (Aut.start a) (Aut.final a) (Aut.edges a)))=i)→(ifB (!(decide (i=0))) ((ite ((Sp.rcheck a)=0) (ite ((Sp.wrong v 4)=0) ((Sp.bhas (Sp.baccL a v) (Aut.start a)), 0) (false, (Sp.wrong v 4))) (false, (Sp.rcheck a)))=(false, i)) ((Sp.okL v)∧(∀ i1 : Int, (((Sp.wrong v 4)=i1)→(ifB (!(decide (i1=0))) ((ite ((Sp.rcheck a)=0) (ite ((Sp.wrong v 4)=0) ((Sp.bhas (Sp.baccL a v) (Aut.start a)), 0) (false, (Sp.wrong v 4))) (false, (Sp.rcheck a)))=(false, i1)) (((∀ i2 : Int, ((Membership.mem (Aut.final a) i2)→((0≤i2)∧(i2 < 400))))∧(∀ x : Edg, ((Membership.mem (Aut.edges a) x)→(Sp.okE x))))∧(((0≤(Aut.start a))∧((Aut.start a) < 400))∧(∀ b : Bool, (((Sp.bhas (Sp.baccL (Aut.mk (Aut.states a) (Aut.start a) (Aut.final a) (Aut.edges a)) v) (Aut.start a))=b)→((ite ((Sp.rcheck a)=0) (ite ((Sp.wrong v 4)=0) ((Sp.bhas (Sp.baccL a v) (Aut.start a)), 0) (false, (Sp.wrong v 4))) (false, (Sp.rcheck a)))=(b, 0))))))))))))))
end Go.AL
namespace Go.AL
set_option linter.unusedVariables false
set_option linter.unusedSimpArgs false
set_option maxRecDepth 10000
attribute [local irreducible] wpF wpFX wpM wpFM
theorem regular_Automaton_into__alt.ok (W : World) : CtrOK Go.Proofs.Tryz.prog W 47 regular_Automaton_into__alt.C := altCtrB_ok (regular_Automaton_into__1.ok W) (regular_Automaton_into__2.ok W)
theorem slices_Backward__t.ok (W : World) : CtrOK Go.Proofs.Tryz.prog W 46 slices_Backward__t.C := TB.ok (g := 84) (by kernel_rfl) (by kernel_rfl)
theorem Sp.baccL_cons (a : Aut) (t : Tm) (l : List Tm) : Sp.baccL a (t :: l) = Sp.bnext a (Sp.baccL a l) t := by
 cases t with
 | mk k x ks =>
   rw [Sp.baccL, Sp.baccT, Sp.bnext]
   rfl
theorem Sp.brun_back (a : Aut) (v : List Tm) : ∀ n : Nat, n ≤ v.length → Sp.brun a (Sp.backN v n) (Sp.baccL a (v.drop n)) = Sp.baccL a v
 | 0, _ => rfl
 | n + 1, h => by
   have e := nth_drop (d := default) (l := v) (i := (n : Int)) (by simp; omega)
   rw [← Sp.brun_back a v n (by omega)]
   rw [Int.toNat_natCast] at e
   rw [e, Sp.baccL_cons]
   rfl
theorem Sp.back_mem (v : List Tm) : ∀ n : Nat, n ≤ v.length → ∀ p ∈ Sp.backN v n, p.2 ∈ v
 | 0, _, p, hp => by cases hp
 | n + 1, h, p, hp => by
   rw [Sp.backN] at hp
   rcases List.mem_cons.1 hp with rfl | hp
   ·exact nth_mem (by simp; omega)
   ·exact Sp.back_mem v n (by omega) p hp
theorem regular_Automaton_accepting.l0_ok (a : Aut) (v : List Tm) (ha : (∀ f ∈ a.final, 0 ≤ f ∧ f < 400) ∧ ∀ e ∈ a.edges, Sp.okE e) : regular_Automaton_accepting.l0 a v := by
 rintro p l n st fin ed s0 s1 s2 s3 s4 s5 s6 ⟨e1, e2, e3, e4, hm⟩
 subst n st fin ed
 have hl : ∀ x ∈ l, x.2 ∈ v := fun x hx => hm x (by simp [hx])
 have hr : ∀ s, Sp.brun a (p :: l) s = Sp.brun a l (Sp.bnext a s p.2) := fun _ => rfl
 rw [hr, Sp.bnext]
 refine ifD (fun h => ⟨⟨ha, ?_⟩, ?_⟩) fun h => ⟨ha.2, ?_⟩
 ·have := Sp.nodesL_mem (hm p (by simp))
  omega
 ·rintro x hx
  refine ⟨ha.2, ?_⟩
  rintro y c0 c1 c2 c3 c4 c5 c6 hq
  simp only [Prod.mk.injEq] at hq
  rw [if_pos h]
  have hx' : Sp.baccL a p.2.kids = x := hx
  rw [hx']
  refine ⟨⟨rfl, rfl, rfl, rfl, hl⟩, ?_⟩
  rw [← hq.1]
 ·rintro y c0 c1 c2 hq
  simp only [Prod.mk.injEq] at hq
  rw [if_neg h]
  refine ⟨⟨rfl, rfl, rfl, rfl, hl⟩, ?_⟩
  rw [← hq.1, Tm.eta]
theorem regular_Automaton_accepting.main (a : Aut) (v : List Tm) (ha : (∀ f ∈ a.final, 0 ≤ f ∧ f < 400) ∧ ∀ e ∈ a.edges, Sp.okE e) : regular_Automaton_accepting.t a v := by
 refine ⟨ha.1, fun x hx => ⟨⟨rfl, rfl, rfl, rfl, Sp.back_mem v _ (Nat.le_refl _)⟩, ?_, regular_Automaton_accepting.l0_ok a v ha, ?_⟩⟩
 ·rintro n st fin ed s0 s1 s2 s3 s4 s5 s6 _
  rfl
 ·rintro n st fin ed s0 s1 s2 s3 s4 s5 s6 hq
  simp only [LOut.brk.injEq, Prod.mk.injEq] at hq
  obtain ⟨_, _, _, _, g0, g1, g2, g3, g4, g5, g6⟩ := hq
  subst g0 g1 g2 g3 g4 g5 g6
  have h1 := Sp.brun_back a v v.length (Nat.le_refl _)
  rw [List.drop_length, Sp.baccL] at h1
  have h2 : Sp.bfin a.final Sp.bz = x := hx
  rw [h2] at h1
  rw [← h1]
  rfl
theorem regular_Automaton_accepting.ok (W : World) : CtrOK Go.Proofs.Tryz.prog W 20 regular_Automaton_accepting.C := by
 refine funOK_rec (fun (a_ : Aut × (List Tm)) => match a_ with | (a, v) => Sp.nodesL v) (l := [(45, regular_Automaton_finals.C), (46, slices_Backward__t.C), (47, regular_Automaton_into__alt.C)]) (fun p hp => by
  simp only [List.mem_cons, List.not_mem_nil, or_false] at hp
  rcases hp with rfl | rfl | rfl
  ·exact regular_Automaton_finals.ok W
  ·exact slices_Backward__t.ok W
  ·exact regular_Automaton_into__alt.ok W) (Λ := fun a_ => match a_ with | (a, v) => (fun _ => none)) (Λr := fun a_ => match a_ with | (a, v) => (regular_Automaton_accepting.Ρ a v)) ?_
 intro a ha
 obtain ⟨a, v⟩ := a
 refine Eq.mpr ?_ (@regular_Automaton_accepting.main a v ha)
 kernel_rfl
theorem regular_Has.main (a : Aut) (v : List Tm) (ha : Sp.okA a ∧ Sp.okL v) : regular_Has.t a v := by
 refine ⟨ha.1, fun r hr => ?_⟩
 have hr' : Sp.rcheck a = r := hr
 refine ifN (fun h => ?_) fun h => ⟨ha.2, fun u hu => ifN (fun h1 => ?_) fun h1 => ?_⟩
 ·rw [if_neg (by rw [hr']; exact h), hr']
 ·rw [if_pos (by rw [hr', h]), if_neg (by rw [hu]; exact h1), hu]
 ·have hc : Sp.rcheck a = 0 := by rw [hr', h]
  obtain ⟨k1, k2, k3, k4, k5, k6, k7⟩ := Sp.rcheck_ok hc
  refine ⟨⟨fun f hf => by have := k4 f hf; omega, fun e he => ?_⟩, by omega, fun b hb => ?_⟩
  ·obtain ⟨q1, q2, q3, q4⟩ := Sp.rright_ok (k7 e he)
   exact ⟨by omega, by omega, q3, fun h5 => by have := q4 h5; omega⟩
  ·rw [if_pos hc, if_pos (by rw [hu, h1])]
   have hb' : Sp.bhas (Sp.baccL a v) a.start = b := hb
   rw [hb']
theorem regular_Has.ok (W : World) : CtrOK Go.Proofs.Tryz.prog W 8 regular_Has.C := by
 refine funOK (Γ := lookC [(11, regular_Check.C), (13, term_Value.C), (20, regular_Automaton_accepting.C), (21, regular_set_has.C)]) (lookC_ok (fun p hp => by
  simp only [List.mem_cons, List.not_mem_nil, or_false] at hp
  rcases hp with rfl | rfl | rfl | rfl
  ·exact regular_Check.ok W
  ·exact term_Value.ok W
  ·exact regular_Automaton_accepting.ok W
  ·exact regular_set_has.ok W)) (Λ := fun a_ => match a_ with | (a, v) => (fun _ => none)) (Λr := fun a_ => match a_ with | (a, v) => (fun _ => none)) ?_
 intro a ha
 obtain ⟨a, v⟩ := a
 refine Eq.mpr ?_ (@regular_Has.main a v ha)
 kernel_rfl
end Go.AL
