/- Functions of the program: what they return, and that they do. -/
import Derived.Test.YtcalbijmeifbhaaGreatGroupA
import Derived.Test.YtcalbijmeifbhaaGreatProg
import Derived.KernelRfl
import Derived.Test.YtcalbijmeifbhaaGreatEvalC
set_option linter.unusedVariables false
set_option linter.unusedSimpArgs false
namespace Go.AL
set_option linter.unusedVariables false
end Go.AL
namespace Sp
open Go.AL
def setB (l : List Bool) (i : Int) : List Bool := l.set i.toNat true
def rsym (t : Tm) : Bool := sym t && decide (wrong [t] 4 = 0)
def rzero (t : Tm) : Bool := decide (t.kind = 0) && decide (t.text = ByteArray.empty) && decide ((t.kids.length : Int) = 0)
def sortOf (k : Int) : Int := if k = 2 then 1 else if k = 3 then 2 else 3
def rstate (a : Aut) (n : Int) : Bool := decide (0 ≤ n) && decide (n < a.states)
def rmem (l : List Tm) (t : Tm) : Bool := l.any fun x => decide (cmpL [x] [t] = 0)
def rreads (e : Edg) (t : Tm) : Bool := if e.kind = 1 then decide (cmpL [e.sym] [t] = 0) else decide (e.kind ≠ 5) && (decide (t.kind = sortOf e.kind) && !rmem e.exc t)
def rexc (k : Int) : Option Tm → List Tm → Bool
 | _, [] => true
 | p, t :: l => rsym t && decide (t.kind = sortOf k) && (match p with | none => true | some p => decide (cmpL [p] [t] < 0)) && rexc k (some t) l
def rright (a : Aut) (e : Edg) : Bool :=
 rstate a e.src && rstate a e.dst && decide (1 ≤ e.kind) && decide (e.kind ≤ 5) && (if e.kind = 1 then rsym e.sym else rzero e.sym) &&
 (decide (e.kind ≠ 1) && decide (e.kind ≠ 5) || decide (e.exc.length = 0)) && rexc e.kind none e.exc && (if e.kind = 5 then rstate a e.inner else decide (e.inner = 0))
def rfin (a : Aut) : Option Int → List Int → Bool
 | _, [] => true
 | p, f :: l => rstate a f && (match p with | none => true | some p => decide (p < f)) && rfin a (some f) l
def rcheck (a : Aut) : Int :=
 if 400 < a.states ∨ 400 < (a.final.length : Int) ∨ 4000 < (a.edges.length : Int) then 5 else
 if a.edges.any (fun e => decide (100 < (e.exc.length : Int))) then 5 else
 if a.states < 1 ∨ rstate a a.start = false then 250 else
 if rfin a none a.final then (if a.edges.all (rright a) then 0 else 250) else 250
def prev {α : Type} (d : α) (l : List α) (i : Int) : Option α := if i = 0 then none else some (nth d l (i - 1))
def nb (l : List Bool) (i : Int) : Bool := nth false l i
end Sp
namespace Go.AL
end Go.AL
namespace Go.AL
set_option linter.unusedVariables false
set_option maxRecDepth 10000
end Go.AL
namespace Go.AL
set_option linter.unusedVariables false
set_option linter.unusedSimpArgs false
set_option maxRecDepth 10000
attribute [local irreducible] wpF wpFX wpM wpFM
theorem Sp.rexc_cons (k : Int) (p : Option Tm) (t : Tm) (l : List Tm) : Sp.rexc k p (t :: l) = (Sp.rsym t && decide (t.kind = Sp.sortOf k) && (match p with | none => true | some p => decide (Sp.cmpL [p] [t] < 0)) && Sp.rexc k (some t) l) := by
 cases p <;> rfl
theorem Sp.rfin_cons (a : Aut) (p : Option Int) (f : Int) (l : List Int) : Sp.rfin a p (f :: l) = (Sp.rstate a f && (match p with | none => true | some p => decide (p < f)) && Sp.rfin a (some f) l) := by
 cases p <;> rfl
theorem Sp.rexc_step (k : Int) (l : List Tm) (i : Int) (h0 : 0 ≤ i) (hi : i.toNat < l.length) :
  Sp.rexc k (Sp.prev default l i) (l.drop i.toNat) = (Sp.rsym (nth default l i) && decide ((nth default l i).kind = Sp.sortOf k) && (decide (i = 0) || decide (Sp.cmpL [nth default l (i - 1)] [nth default l i] < 0)) && Sp.rexc k (Sp.prev default l (i + 1)) (l.drop (i + 1).toNat)) := by
 rw [nth_drop (d := default) hi, Sp.rexc_cons, show (i + 1).toNat = i.toNat + 1 by omega]
 have e1 : Sp.prev default l (i + 1) = some (nth default l i) := by
  rw [Sp.prev, if_neg (by omega), show i + 1 - 1 = i by omega]
 rw [e1]
 by_cases h : i = 0
 ·subst h; simp [Sp.prev]
 ·simp [Sp.prev, h]
theorem Sp.rfin_step (a : Aut) (l : List Int) (i : Int) (h0 : 0 ≤ i) (hi : i.toNat < l.length) :
  Sp.rfin a (Sp.prev 0 l i) (l.drop i.toNat) = (Sp.rstate a (nth 0 l i) && (decide (i = 0) || decide (nth 0 l (i - 1) < nth 0 l i)) && Sp.rfin a (Sp.prev 0 l (i + 1)) (l.drop (i + 1).toNat)) := by
 rw [nth_drop (d := (0 : Int)) hi, Sp.rfin_cons, show (i + 1).toNat = i.toNat + 1 by omega]
 have e1 : Sp.prev (0 : Int) l (i + 1) = some (nth 0 l i) := by
  rw [Sp.prev, if_neg (by omega), show i + 1 - 1 = i by omega]
 rw [e1]
 by_cases h : i = 0
 ·subst h; simp [Sp.prev]
 ·simp [Sp.prev, h]
theorem Sp.rfin_mem {a : Aut} : ∀ {l : List Int} {p : Option Int}, Sp.rfin a p l = true → ∀ f ∈ l, 0 ≤ f ∧ f < a.states
 | [], p, h, f, hf => by cases hf
 | x :: l, p, h, f, hf => by
   simp only [Sp.rfin, Sp.rstate, Bool.and_eq_true, Bool.or_eq_true, Bool.not_eq_true', Bool.or_eq_false_iff, Bool.and_eq_false_iff, Bool.not_eq_false', decide_eq_true_eq, decide_eq_false_iff_not, mk_empty] at h
   rcases List.mem_cons.1 hf with rfl | hf
   ·exact h.1.1
   ·exact Sp.rfin_mem h.2 f hf
theorem Sp.rcheck_ok {a : Aut} (h : Sp.rcheck a = 0) : a.states ≤ 400 ∧ 1 ≤ a.states ∧ (0 ≤ a.start ∧ a.start < a.states) ∧ (∀ f ∈ a.final, 0 ≤ f ∧ f < a.states) ∧ (a.final.length : Int) ≤ 400 ∧ (a.edges.length : Int) ≤ 4000 ∧ ∀ e ∈ a.edges, Sp.rright a e = true := by
 unfold Sp.rcheck at h
 split at h
 ·omega
 ·rename_i h1
  split at h
  ·omega
  ·split at h
   ·omega
   ·rename_i h3
    split at h
    ·rename_i h4
     split at h
     ·rename_i h5
      rw [not_or] at h3
      have h6 : Sp.rstate a a.start = true := by
       cases hx : Sp.rstate a a.start with
       | true => rfl
       | false => exact absurd hx h3.2
      simp only [Sp.rstate, Bool.and_eq_true, Bool.or_eq_true, Bool.not_eq_true', Bool.or_eq_false_iff, Bool.and_eq_false_iff, Bool.not_eq_false', decide_eq_true_eq, decide_eq_false_iff_not, mk_empty] at h6
      exact ⟨by omega, by omega, h6, Sp.rfin_mem h4, by omega, by omega, fun e he => List.all_eq_true.1 h5 e he⟩
     ·omega
    ·omega
theorem Sp.rright_ok {a : Aut} {e : Edg} (h : Sp.rright a e = true) : (0 ≤ e.src ∧ e.src < a.states) ∧ (0 ≤ e.dst ∧ e.dst < a.states) ∧ (1 ≤ e.kind ∧ e.kind ≤ 5) ∧ (e.kind = 5 → 0 ≤ e.inner ∧ e.inner < a.states) := by
 simp only [Sp.rright, Sp.rstate, Bool.and_eq_true, Bool.or_eq_true, Bool.not_eq_true', Bool.or_eq_false_iff, Bool.and_eq_false_iff, Bool.not_eq_false', decide_eq_true_eq, decide_eq_false_iff_not, mk_empty] at h
 refine ⟨h.1.1.1.1.1.1.1, h.1.1.1.1.1.1.2, ⟨h.1.1.1.1.1.2, h.1.1.1.1.2⟩, fun h5 => ?_⟩
 have := h.2
 rw [if_pos h5] at this
 simpa using this
end Go.AL
namespace Go.AL
set_option linter.unusedVariables false
end Go.AL
namespace Sp
open Go.AL
def bword (x : Bts) (i : Int) : Int := nth 0 [x.b0, x.b1, x.b2, x.b3, x.b4, x.b5, x.b6] i
def bhas (x : Bts) (n : Int) : Bool := decide (Go.bits .and .u64 ((bword x (n.tdiv 64)).fdiv (2 ^ min (n.tmod 64).toNat 64)) 1 = 1)
def bor (x : Bts) (n : Int) : Int := Go.bits .or .u64 (bword x (n.tdiv 64)) (Go.IntKind.u64.wrap (1 * 2 ^ min (n.tmod 64).toNat 64))
def bset (x : Bts) (n v : Int) : Bts := ⟨if n = 0 then v else x.b0, if n = 1 then v else x.b1, if n = 2 then v else x.b2, if n = 3 then v else x.b3, if n = 4 then v else x.b4, if n = 5 then v else x.b5, if n = 6 then v else x.b6⟩
def bput (x : Bts) (n : Int) : Bts := bset x (n.tdiv 64) (bor x n)
def idxE (p : Edg → Bool) : List Edg → Int
 | [] => -1
 | b :: l => if p b then 0 else if idxE p l = -1 then -1 else idxE p l + 1
theorem idxE_ge (p : Edg → Bool) : ∀ l : List Edg, -1 ≤ idxE p l
 | [] => by simp [idxE]
 | b :: l => by
   have := idxE_ge p l
   rw [idxE]
   split
   ·omega
   ·split <;> omega
theorem idxE_any (p : Edg → Bool) : ∀ l : List Edg, decide (0 ≤ idxE p l) = l.any p
 | [] => by simp [idxE]
 | b :: l => by
   have ih := idxE_any p l
   have := idxE_ge p l
   rw [idxE, List.any_cons, ← ih]
   cases p b with
   | true => simp
   | false =>
     by_cases h1 : idxE p l = -1
     ·simp [h1]
     ·simp only [Bool.false_eq_true, if_false, h1, Bool.false_or]
      congr 1
      simp only [eq_iff_iff]
      omega
def longE (e : Edg) : Bool := decide (100 < (e.exc.length : Int))
def okA (a : Aut) : Prop := ∀ e ∈ a.edges, okL [e.sym] ∧ ∀ t ∈ e.exc, okL [t]
end Sp
namespace Go.AL
def regular_set_has.C : Ctr := pureCtr [.nm 8, .int .i64] [.bool] (some (fun (a_ : Bts × Int) => match a_ with | (x, n) => 0 ≤ n ∧ n < 400)) (fun (a_ : Bts × Int) => match a_ with | (x, n) => (Sp.bhas x n))
def regular_set_put.d : LD := ({ cs := [1], cts := [.int .i64], pts := [(0, .loc 0 0)], vs := [], os := [(0, .plain, [none, none, none, none, none, none, none])], vts := [.int .u64, .int .u64, .int .u64, .int .u64, .int .u64, .int .u64, .int .u64], own := [false, false, false, false, false, false, false], ro := [0, 1], nx := 1 } : LD)
def regular_set_put.C : Ctr := memCtr regular_set_put.d [] (some (fun (c_ : ElT [.int .i64]) (s_ : ElT [.int .u64, .int .u64, .int .u64, .int .u64, .int .u64, .int .u64, .int .u64]) => match c_, s_ with | n, (b0, b1, b2, b3, b4, b5, b6) => 0 ≤ n ∧ n < 400)) (fun (c_ : ElT [.int .i64]) (s_ : ElT [.int .u64, .int .u64, .int .u64, .int .u64, .int .u64, .int .u64, .int .u64]) => match c_, s_ with | n, (b0, b1, b2, b3, b4, b5, b6) => (((), ((Sp.bput ⟨b0, b1, b2, b3, b4, b5, b6⟩ n).b0, (Sp.bput ⟨b0, b1, b2, b3, b4, b5, b6⟩ n).b1, (Sp.bput ⟨b0, b1, b2, b3, b4, b5, b6⟩ n).b2, (Sp.bput ⟨b0, b1, b2, b3, b4, b5, b6⟩ n).b3, (Sp.bput ⟨b0, b1, b2, b3, b4, b5, b6⟩ n).b4, (Sp.bput ⟨b0, b1, b2, b3, b4, b5, b6⟩ n).b5, (Sp.bput ⟨b0, b1, b2, b3, b4, b5, b6⟩ n).b6))))
def regular_Edge_plain.C : Ctr := pureCtr [.nm 6] [.bool] none (fun (e : Edg) => ((decide (2 ≤ e.kind) && decide (e.kind ≤ 4))))
def cmp_isNaN.C : Ctr := pureCtr [.int .i64] [.bool] none (fun (x : Int) => (false))
def cmp_isNaN_134.C : Ctr := pureCtr [.str] [.bool] none (fun (x : ByteArray) => (false))
def cmp_Compare.C : Ctr := pureCtr [.int .i64, .int .i64] [.int .i64] none (fun (a_ : Int × Int) => match a_ with | (x, y) => ((if x < y then -1 else if y < x then 1 else 0 : Int)))
def cmp_Compare_118.C : Ctr := pureCtr [.str, .str] [.int .i64] none (fun (a_ : ByteArray × ByteArray) => match a_ with | (x, y) => (Sp.sign x y))
def term_Compare.L0 : LD := { cs := [0, 1, 11], cts := [.lst (.nm 0), .lst (.nm 0), .int .i64], pts := [], vs := [12], os := [], vts := [.int .i64], own := [false], ro := [0, 1, 7, 8, 9, 10, 11], nx := 100 }
def term_Compare.Λ (a : (List Tm)) (b : (List Tm)) : Nat → Option (Loop (ElT [.int .i64])) := fun id =>
 if id = 0 then some (mkLoop term_Compare.L0
  (fun (c_ : (List Tm) × (List Tm) × Int) (s_ : Int) => match c_, s_ with | (c_a, c_b, m), i => c_a = a ∧ c_b = b ∧ 0 ≤ i ∧ i ≤ a.length ∧ i ≤ b.length ∧ m = (min (a.length : Int) b.length) ∧ m < 9223372036854775808)
  (fun (c_ : (List Tm) × (List Tm) × Int) (s_ : Int) => match c_, s_ with | (c_a, c_b, m), i => (a.length - i : Int).toNat)
  (fun (c_ : (List Tm) × (List Tm) × Int) (s_ : Int) => match c_, s_ with | (c_a, c_b, m), i => (if Sp.pfx (a.drop i.toNat) (b.drop i.toNat) = 0 then .brk (min a.length b.length : Int) else .ret (Sp.pfx (a.drop i.toNat) (b.drop i.toNat)))) [] true) else
 none
def term_Compare.C : Ctr := pureCtr [.lst (.nm 0), .lst (.nm 0)] [.int .i64] none (fun (a_ : (List Tm) × (List Tm)) => match a_ with | (a, b) => (Sp.cmpL a b))
def regular_compare.C : Ctr := pureCtr [.nm 0, .nm 0] [.int .i64] none (fun (a_ : Tm × Tm) => match a_ with | (a, b) => (Sp.cmpL [a] [b]))
def regular_Automaton_isState.C : Ctr := pureCtr [.nm 7, .int .i64] [.bool] none (fun (a_ : Aut × Int) => match a_ with | (a, n) => (Sp.rstate a n))
def regular_kinds.C : Ctr := pureCtr [] [.nm 9] none (fun (_ : Unit) => ((⟨0, 0, 1, 2, 3⟩ : Fiv)))
def regular_symbol.C : Ctr := pureCtr [.nm 0] [.bool] (some (fun (t : Tm) => Sp.okL [t])) (fun (t : Tm) => (Sp.rsym t))
def regular_Automaton_right.L1 : LD := { cs := [65, 66], cts := [.lst (.nm 0), .int .i64], pts := [(3, (.loc 1 0))], vs := [67], os := [(1, .plain, [none, none, none, none, none, none, none, none])], vts := [.int .i64, .int .i64, .int .i64, .int .i64, .int .i64, .str, .lst (.nm 0), .lst (.nm 0), .int .i64], own := [false, false, false, false, false, false, false, false, false], ro := [0, 1, 2, 3, 7, 8, 9, 10, 11, 12, 13, 14, 15, 16, 17, 18, 19, 20, 21, 22, 23, 24, 25, 26, 27, 28, 30, 31, 32, 29, 33, 34, 35, 36, 55, 56, 57, 58, 59, 60, 61, 62, 63, 64, 65, 66], nx := 100 }
def regular_Automaton_right.Λ (a : Aut) (e : Edg) : Nat → Option (Loop (ElT [.bool])) := fun id =>
 if id = 1 then some (mkLoop regular_Automaton_right.L1
  (fun (c_ : (List Tm) × Int) (s_ : Int × Int × Int × Int × Int × ByteArray × (List Tm) × (List Tm) × Int) => match c_, s_ with | (l, n), (i, sr, ds, k, sk, sx, sl, ex, inn) => l = e.exc ∧ n = l.length ∧ 0 ≤ i ∧ i ≤ l.length ∧ ex = e.exc ∧ k = e.kind ∧ inn = e.inner ∧ l.length < 9223372036854775808 ∧ (0 < (l.length : Int) → 2 ≤ k ∧ k ≤ 4))
  (fun (c_ : (List Tm) × Int) (s_ : Int × Int × Int × Int × Int × ByteArray × (List Tm) × (List Tm) × Int) => match c_, s_ with | (l, n), (i, sr, ds, k, sk, sx, sl, ex, inn) => (l.length - i : Int).toNat)
  (fun (c_ : (List Tm) × Int) (s_ : Int × Int × Int × Int × Int × ByteArray × (List Tm) × (List Tm) × Int) => match c_, s_ with | (l, n), (i, sr, ds, k, sk, sx, sl, ex, inn) => if Sp.rexc e.kind (Sp.prev default e.exc i) (e.exc.drop i.toNat) then .brk (e.exc.length, sr, ds, k, sk, sx, sl, ex, inn) else .ret false) [] true) else
 none
def regular_Automaton_right.C : Ctr := pureCtr [.nm 7, .nm 6] [.bool] (some (fun (a_ : Aut × Edg) => match a_ with | (a, e) => Sp.okL [e.sym] ∧ ∀ t ∈ e.exc, Sp.okL [t])) (fun (a_ : Aut × Edg) => match a_ with | (a, e) => (Sp.rright a e))
def regular_Check_1.C : Ctr := pureCtr [.nm 6] [.bool] none (fun (e : Edg) => (Sp.longE e))
def slices_IndexFunc__c1.L0 : LD := { cs := [0, 7], cts := [.lst (.nm 6), .int .i64], pts := [(1, (.fn 25 [] []))], vs := [8], os := [], vts := [.int .i64], own := [false], ro := [0, 1, 6, 7], nx := 100 }
def slices_IndexFunc__c1.Λ (l : (List Edg)) : Nat → Option (Loop (ElT [.int .i64])) := fun id =>
 if id = 0 then some (mkLoop slices_IndexFunc__c1.L0
  (fun (c_ : (List Edg) × Int) (s_ : Int) => match c_, s_ with | (c_l, n), i => c_l = l ∧ n = l.length ∧ 0 ≤ i ∧ i ≤ l.length ∧ l.length < 9223372036854775808)
  (fun (c_ : (List Edg) × Int) (s_ : Int) => match c_, s_ with | (c_l, n), i => (l.length - i : Int).toNat)
  (fun (c_ : (List Edg) × Int) (s_ : Int) => match c_, s_ with | (c_l, n), i => if (l.drop i.toNat).any Sp.longE = true then .ret (i + Sp.idxE Sp.longE (l.drop i.toNat)) else .brk (l.length : Int)) [] true) else
 none
def slices_IndexFunc__c1.C : Ctr := pureX [none, some 25] [.lst (.nm 6)] [.int .i64] none (fun (l : (List Edg)) => (Sp.idxE Sp.longE l))
def slices_ContainsFunc__c1.C : Ctr := pureX [none, some 25] [.lst (.nm 6)] [.bool] none (fun (l : (List Edg)) => (l.any Sp.longE))
end Go.AL
namespace Go.AL
set_option linter.unusedVariables false
set_option maxRecDepth 10000
def regular_set_has.t (x : Bts) (n : Int) : Prop :=
 ((64 : Int) ≠ 0∧inR .i64 (Int.tdiv n 64))∧(0≤Int.tdiv n 64∧Int.tdiv n 64 < (↑7 : Int))∧(64 : Int) ≠ 0∧0≤Int.tmod n 64∧Sp.bhas x n=decide (Go.bits Go.BinOp.and IntKind.u64 (Int.fdiv (nth 0 (Bts.b0 x :: Bts.b1 x :: Bts.b2 x :: Bts.b3 x :: Bts.b4 x :: Bts.b5 x :: Bts.b6 x :: ([] : List Int)) (Int.tdiv n 64)) (2 ^ (Min.min (Int.toNat (Int.tmod n 64)) (IntKind.bits IntKind.u64)))) 1=1)
def regular_set_put.t (n : Int) (b0 : Int) (b1 : Int) (b2 : Int) (b3 : Int) (b4 : Int) (b5 : Int) (b6 : Int) : Prop :=
 ((64 : Int) ≠ 0∧inR .i64 (Int.tdiv n 64))∧(0≤Int.tdiv n 64∧Int.tdiv n 64 < (↑7 : Int))∧(64 : Int) ≠ 0∧0≤Int.tmod n 64∧(0≤Int.tdiv n 64∧Int.tdiv n 64 < (↑7 : Int))∧((), Bts.b0 (Sp.bput (Bts.mk b0 b1 b2 b3 b4 b5 b6) n), Bts.b1 (Sp.bput (Bts.mk b0 b1 b2 b3 b4 b5 b6) n), Bts.b2 (Sp.bput (Bts.mk b0 b1 b2 b3 b4 b5 b6) n), Bts.b3 (Sp.bput (Bts.mk b0 b1 b2 b3 b4 b5 b6) n), Bts.b4 (Sp.bput (Bts.mk b0 b1 b2 b3 b4 b5 b6) n), Bts.b5 (Sp.bput (Bts.mk b0 b1 b2 b3 b4 b5 b6) n), Bts.b6 (Sp.bput (Bts.mk b0 b1 b2 b3 b4 b5 b6) n))=((), ite (Int.tdiv n 64=(↑0 : Int)) (Go.bits Go.BinOp.or IntKind.u64 (nth 0 (b0 :: b1 :: b2 :: b3 :: b4 :: b5 :: b6 :: ([] : List Int)) (Int.tdiv n 64)) (IntKind.wrap IntKind.u64 (1 * 2 ^ (Min.min (Int.toNat (Int.tmod n 64)) (IntKind.bits IntKind.u64))))) b0, ite (Int.tdiv n 64=(↑1 : Int)) (Go.bits Go.BinOp.or IntKind.u64 (nth 0 (b0 :: b1 :: b2 :: b3 :: b4 :: b5 :: b6 :: ([] : List Int)) (Int.tdiv n 64)) (IntKind.wrap IntKind.u64 (1 * 2 ^ (Min.min (Int.toNat (Int.tmod n 64)) (IntKind.bits IntKind.u64))))) b1, ite (Int.tdiv n 64=(↑2 : Int)) (Go.bits Go.BinOp.or IntKind.u64 (nth 0 (b0 :: b1 :: b2 :: b3 :: b4 :: b5 :: b6 :: ([] : List Int)) (Int.tdiv n 64)) (IntKind.wrap IntKind.u64 (1 * 2 ^ (Min.min (Int.toNat (Int.tmod n 64)) (IntKind.bits IntKind.u64))))) b2, ite (Int.tdiv n 64=(↑3 : Int)) (Go.bits Go.BinOp.or IntKind.u64 (nth 0 (b0 :: b1 :: b2 :: b3 :: b4 :: b5 :: b6 :: ([] : List Int)) (Int.tdiv n 64)) (IntKind.wrap IntKind.u64 (1 * 2 ^ (Min.min (Int.toNat (Int.tmod n 64)) (IntKind.bits IntKind.u64))))) b3, ite (Int.tdiv n 64=(↑4 : Int)) (Go.bits Go.BinOp.or IntKind.u64 (nth 0 (b0 :: b1 :: b2 :: b3 :: b4 :: b5 :: b6 :: ([] : List Int)) (Int.tdiv n 64)) (IntKind.wrap IntKind.u64 (1 * 2 ^ (Min.min (Int.toNat (Int.tmod n 64)) (IntKind.bits IntKind.u64))))) b4, ite (Int.tdiv n 64=(↑5 : Int)) (Go.bits Go.BinOp.or IntKind.u64 (nth 0 (b0 :: b1 :: b2 :: b3 :: b4 :: b5 :: b6 :: ([] : List Int)) (Int.tdiv n 64)) (IntKind.wrap IntKind.u64 (1 * 2 ^ (Min.min (Int.toNat (Int.tmod n 64)) (IntKind.bits IntKind.u64))))) b5, ite (Int.tdiv n 64=(↑6 : Int)) (Go.bits Go.BinOp.or IntKind.u64 (nth 0 (b0 :: b1 :: b2 :: b3 :: b4 :: b5 :: b6 :: ([] : List Int)) (Int.tdiv n 64)) (IntKind.wrap IntKind.u64 (1 * 2 ^ (Min.min (Int.toNat (Int.tmod n 64)) (IntKind.bits IntKind.u64))))) b6)
def regular_Edge_plain.t (e : Edg) : Prop :=
 (decide (2≤Edg.kind e) && decide (Edg.kind e≤4))=(decide (2≤Edg.kind e) && decide (Edg.kind e≤4))
def cmp_isNaN.t (x : Int) : Prop :=
 false=(!(decide (x=x)))
def cmp_isNaN_134.t (x : ByteArray) : Prop :=
 false=(!(decide (x=x)))
def cmp_Compare.t (x : Int) (y : Int) : Prop :=
 ∀ b : Bool, false=b→∀ b1 : Bool, false=b1→ifB b (ifB b1 (ite (x < y) (-1) (ite (y < x) 1 0)=0) (ite (x < y) (-1) (ite (y < x) 1 0)=(-1))) (ifB b1 (ite (x < y) (-1) (ite (y < x) 1 0)=1) (ifB (decide (x < y)) (ite (x < y) (-1) (ite (y < x) 1 0)=(-1)) (ifB (decide (y < x)) (ite (x < y) (-1) (ite (y < x) 1 0)=1) (ite (x < y) (-1) (ite (y < x) 1 0)=0))))
def cmp_Compare_118.t (x : ByteArray) (y : ByteArray) : Prop :=
 ∀ b : Bool, false=b→∀ b1 : Bool, false=b1→ifB b (ifB b1 (Sp.sign x y=0) (Sp.sign x y=(-1))) (ifB b1 (Sp.sign x y=1) (ifB (Go.Op.bytesLess (ByteArray.toList x) (ByteArray.toList y)) (Sp.sign x y=(-1)) (ifB (!(Go.Op.bytesLess (ByteArray.toList x) (ByteArray.toList y) || decide (x=y))) (Sp.sign x y=1) (Sp.sign x y=0))))
def term_Compare.l0 (a : (List Tm)) (b : (List Tm)) : Prop :=
 ∀ l l1 : List Tm, ∀ i i1 : Int, l=a∧l1=b∧0≤i1∧i1≤(↑(List.length a) : Int)∧i1≤(↑(List.length b) : Int)∧i=Min.min (↑(List.length a) : Int) (↑(List.length b) : Int)∧i < 9223372036854775808→ifB (decide (i1 < i)) ((0≤i1∧i1 < (↑(List.length l) : Int))∧(0≤i1∧i1 < (↑(List.length l1) : Int))∧ifB (!(decide (Tm.kind (nth Inhabited.default l i1)=Tm.kind (nth Inhabited.default l1 i1)))) ((0≤i1∧i1 < (↑(List.length l) : Int))∧(0≤i1∧i1 < (↑(List.length l1) : Int))∧∀ i2 : Int, ite (Tm.kind (nth Inhabited.default l i1) < Tm.kind (nth Inhabited.default l1 i1)) (-1) (ite (Tm.kind (nth Inhabited.default l1 i1) < Tm.kind (nth Inhabited.default l i1)) 1 0)=i2→(ite (Sp.pfx (List.drop (Int.toNat i1) a) (List.drop (Int.toNat i1) b)=0) (LOut.brk (Min.min (↑(List.length a) : Int) (↑(List.length b) : Int))) (LOut.ret (Sp.pfx (List.drop (Int.toNat i1) a) (List.drop (Int.toNat i1) b))) : LOut _ Int)=LOut.ret i2) ((0≤i1∧i1 < (↑(List.length l) : Int))∧(0≤i1∧i1 < (↑(List.length l1) : Int))∧ifB (!(decide (Tm.text (nth Inhabited.default l i1)=Tm.text (nth Inhabited.default l1 i1)))) ((0≤i1∧i1 < (↑(List.length l) : Int))∧(0≤i1∧i1 < (↑(List.length l1) : Int))∧∀ i2 : Int, Sp.sign (Tm.text (nth Inhabited.default l i1)) (Tm.text (nth Inhabited.default l1 i1))=i2→(ite (Sp.pfx (List.drop (Int.toNat i1) a) (List.drop (Int.toNat i1) b)=0) (LOut.brk (Min.min (↑(List.length a) : Int) (↑(List.length b) : Int))) (LOut.ret (Sp.pfx (List.drop (Int.toNat i1) a) (List.drop (Int.toNat i1) b))) : LOut _ Int)=LOut.ret i2) ((0≤i1∧i1 < (↑(List.length l) : Int))∧(0≤i1∧i1 < (↑(List.length l1) : Int))∧(True∧Sp.nodesL (Tm.kids (nth Inhabited.default l i1)) < Sp.nodesL a)∧∀ i2 : Int, Sp.cmpL (Tm.kids (nth Inhabited.default l i1)) (Tm.kids (nth Inhabited.default l1 i1))=i2→ifB (!(decide (i2=0))) ((ite (Sp.pfx (List.drop (Int.toNat i1) a) (List.drop (Int.toNat i1) b)=0) (LOut.brk (Min.min (↑(List.length a) : Int) (↑(List.length b) : Int))) (LOut.ret (Sp.pfx (List.drop (Int.toNat i1) a) (List.drop (Int.toNat i1) b))) : LOut _ Int)=LOut.ret i2) (inR .i64 (i1 + 1)∧(l=a∧l1=b∧0≤i1 + 1∧i1 + 1≤(↑(List.length a) : Int)∧i1 + 1≤(↑(List.length b) : Int)∧i=Min.min (↑(List.length a) : Int) (↑(List.length b) : Int)∧i < 9223372036854775808)∧Int.toNat ((↑(List.length a) : Int) - (i1 + 1)) < Int.toNat ((↑(List.length a) : Int) - i1)∧(ite (Sp.pfx (List.drop (Int.toNat (i1 + 1)) a) (List.drop (Int.toNat (i1 + 1)) b)=0) (LOut.brk (Min.min (↑(List.length a) : Int) (↑(List.length b) : Int))) (LOut.ret (Sp.pfx (List.drop (Int.toNat (i1 + 1)) a) (List.drop (Int.toNat (i1 + 1)) b))) : LOut _ Int)=ite (Sp.pfx (List.drop (Int.toNat i1) a) (List.drop (Int.toNat i1) b)=0) (LOut.brk (Min.min (↑(List.length a) : Int) (↑(List.length b) : Int))) (LOut.ret (Sp.pfx (List.drop (Int.toNat i1) a) (List.drop (Int.toNat i1) b))))))) ((ite (Sp.pfx (List.drop (Int.toNat i1) a) (List.drop (Int.toNat i1) b)=0) (LOut.brk (Min.min (↑(List.length a) : Int) (↑(List.length b) : Int))) (LOut.ret (Sp.pfx (List.drop (Int.toNat i1) a) (List.drop (Int.toNat i1) b))) : LOut _ Int)=LOut.brk i1)
def term_Compare.t (a : (List Tm)) (b : (List Tm)) : Prop :=
 List.length a < 9223372036854775808→List.length b < 9223372036854775808→(a=a∧b=b∧(0 : Int)≤0∧0≤(↑(List.length a) : Int)∧0≤(↑(List.length b) : Int)∧Min.min (↑(List.length a) : Int) (↑(List.length b) : Int)=Min.min (↑(List.length a) : Int) (↑(List.length b) : Int)∧Min.min (↑(List.length a) : Int) (↑(List.length b) : Int) < 9223372036854775808)∧term_Compare.l0 a b∧(∀ i : Int, (ite (Sp.pfx (List.drop (Int.toNat 0) a) (List.drop (Int.toNat 0) b)=0) (LOut.brk (Min.min (↑(List.length a) : Int) (↑(List.length b) : Int))) (LOut.ret (Sp.pfx (List.drop (Int.toNat 0) a) (List.drop (Int.toNat 0) b))) : LOut _ Int)=LOut.brk i→List.length a < 9223372036854775808→List.length b < 9223372036854775808→∀ i1 : Int, ite ((↑(List.length a) : Int) < (↑(List.length b) : Int)) (-1) (ite ((↑(List.length b) : Int) < (↑(List.length a) : Int)) 1 0)=i1→Sp.cmpL a b=i1)∧∀ i : Int, (ite (Sp.pfx (List.drop (Int.toNat 0) a) (List.drop (Int.toNat 0) b)=0) (LOut.brk (Min.min (↑(List.length a) : Int) (↑(List.length b) : Int))) (LOut.ret (Sp.pfx (List.drop (Int.toNat 0) a) (List.drop (Int.toNat 0) b))) : LOut _ Int)=LOut.ret i→Sp.cmpL a b=i
def regular_compare.t (a : Tm) (b : Tm) : Prop :=
 ∀ i : Int, Sp.cmpL (Tm.mk (Tm.kind a) (Tm.text a) (Tm.kids a) :: ([] : List Tm)) (Tm.mk (Tm.kind b) (Tm.text b) (Tm.kids b) :: ([] : List Tm))=i→Sp.cmpL (a :: ([] : List Tm)) (b :: ([] : List Tm))=i
def regular_Automaton_isState.t (a : Aut) (n : Int) : Prop :=
 Sp.rstate a n=(decide (0≤n) && decide (n < Aut.states a))
def regular_kinds.t : Prop :=
 Fiv.mk 0 0 1 2 3=Fiv.mk 0 0 1 2 3
def regular_symbol.t (t : Tm) : Prop :=
 ∀ b : Bool, Sp.sym (Tm.mk (Tm.kind t) (Tm.text t) (Tm.kids t))=b→(b=true→Sp.okL (Tm.mk (Tm.kind t) (Tm.text t) (Tm.kids t) :: ([] : List Tm)))∧Sp.rsym t=(b && decide (Sp.wrong (Tm.mk (Tm.kind t) (Tm.text t) (Tm.kids t) :: ([] : List Tm)) 4=0))
def regular_Automaton_right.l1 (e : Edg) : Prop :=
 ∀ l : List Tm, ∀ i i1 i2 i3 i4 i5 : Int, ∀ s : ByteArray, ∀ l1 l2 : List Tm, ∀ i6 : Int, l=Edg.exc e∧i=(↑(List.length l) : Int)∧0≤i1∧i1≤(↑(List.length l) : Int)∧l2=Edg.exc e∧i4=Edg.kind e∧i6=Edg.inner e∧List.length l < 9223372036854775808∧(0 < (↑(List.length l) : Int)→2≤i4∧i4≤4)→ifB (decide (i1 < i)) ((0≤i1∧i1 < (↑(List.length l) : Int))∧Sp.okL (Tm.mk (Tm.kind (nth Inhabited.default l i1)) (Tm.text (nth Inhabited.default l i1)) (Tm.kids (nth Inhabited.default l i1)) :: ([] : List Tm))∧((!(Sp.rsym (Tm.mk (Tm.kind (nth Inhabited.default l i1)) (Tm.text (nth Inhabited.default l i1)) (Tm.kids (nth Inhabited.default l i1)))))=false→0≤i4∧i4 < (↑5 : Int))∧(decide (0 < i1)=true∧((!(Sp.rsym (Tm.mk (Tm.kind (nth Inhabited.default l i1)) (Tm.text (nth Inhabited.default l i1)) (Tm.kids (nth Inhabited.default l i1))))) || (!(decide (Tm.kind (nth Inhabited.default l i1)=nth 0 (0 :: 0 :: 1 :: 2 :: 3 :: ([] : List Int)) i4))))=false→inR .i64 (i1 - 1))∧(decide (0 < i1)=true∧((!(Sp.rsym (Tm.mk (Tm.kind (nth Inhabited.default l i1)) (Tm.text (nth Inhabited.default l i1)) (Tm.kids (nth Inhabited.default l i1))))) || (!(decide (Tm.kind (nth Inhabited.default l i1)=nth 0 (0 :: 0 :: 1 :: 2 :: 3 :: ([] : List Int)) i4))))=false→0≤i1 - 1∧i1 - 1 < (↑(List.length l2) : Int))∧ifB ((!(Sp.rsym (Tm.mk (Tm.kind (nth Inhabited.default l i1)) (Tm.text (nth Inhabited.default l i1)) (Tm.kids (nth Inhabited.default l i1))))) || (!(decide (Tm.kind (nth Inhabited.default l i1)=nth 0 (0 :: 0 :: 1 :: 2 :: 3 :: ([] : List Int)) i4))) || decide (0 < i1) && decide (0≤Sp.cmpL (nth Inhabited.default l2 (i1 - 1) :: ([] : List Tm)) (Tm.mk (Tm.kind (nth Inhabited.default l i1)) (Tm.text (nth Inhabited.default l i1)) (Tm.kids (nth Inhabited.default l i1)) :: ([] : List Tm)))) ((ite (Sp.rexc (Edg.kind e) (Sp.prev Inhabited.default (Edg.exc e) i1) (List.drop (Int.toNat i1) (Edg.exc e))=true) (LOut.brk ((↑(List.length (Edg.exc e)) : Int), i2, i3, i4, i5, s, l1, l2, i6)) (LOut.ret false) : LOut _ Bool)=LOut.ret false) (inR .i64 (i1 + 1)∧(l=Edg.exc e∧i=(↑(List.length l) : Int)∧0≤i1 + 1∧i1 + 1≤(↑(List.length l) : Int)∧l2=Edg.exc e∧i4=Edg.kind e∧i6=Edg.inner e∧List.length l < 9223372036854775808∧(0 < (↑(List.length l) : Int)→2≤i4∧i4≤4))∧Int.toNat ((↑(List.length l) : Int) - (i1 + 1)) < Int.toNat ((↑(List.length l) : Int) - i1)∧(ite (Sp.rexc (Edg.kind e) (Sp.prev Inhabited.default (Edg.exc e) (i1 + 1)) (List.drop (Int.toNat (i1 + 1)) (Edg.exc e))=true) (LOut.brk ((↑(List.length (Edg.exc e)) : Int), i2, i3, i4, i5, s, l1, l2, i6)) (LOut.ret false) : LOut _ Bool)=ite (Sp.rexc (Edg.kind e) (Sp.prev Inhabited.default (Edg.exc e) i1) (List.drop (Int.toNat i1) (Edg.exc e))=true) (LOut.brk ((↑(List.length (Edg.exc e)) : Int), i2, i3, i4, i5, s, l1, l2, i6)) (LOut.ret false))) ((ite (Sp.rexc (Edg.kind e) (Sp.prev Inhabited.default (Edg.exc e) i1) (List.drop (Int.toNat i1) (Edg.exc e))=true) (LOut.brk ((↑(List.length (Edg.exc e)) : Int), i2, i3, i4, i5, s, l1, l2, i6)) (LOut.ret false) : LOut _ Bool)=LOut.brk (i1, i2, i3, i4, i5, s, l1, l2, i6))
def regular_Automaton_right.t (a : Aut) (e : Edg) : Prop :=
 ∀ b : Bool, Sp.rstate (Aut.mk (Aut.states a) (Aut.start a) (Aut.final a) (Aut.edges a)) (Edg.src e)=b→ifB ((!b) || (!(Sp.rstate (Aut.mk (Aut.states a) (Aut.start a) (Aut.final a) (Aut.edges a)) (Edg.dst e))) || decide (Edg.kind e < 1) || decide (5 < Edg.kind e)) (Sp.rright a e=false) (ifB (decide (Edg.kind e=1)) (Sp.okL (Tm.mk (Tm.kind (Edg.sym e)) (Tm.text (Edg.sym e)) (Tm.kids (Edg.sym e)) :: ([] : List Tm))∧∀ b1 : Bool, Sp.rsym (Tm.mk (Tm.kind (Edg.sym e)) (Tm.text (Edg.sym e)) (Tm.kids (Edg.sym e)))=b1→ifB (!b1) (Sp.rright a e=false) (∀ b2 : Bool, (decide (2≤Edg.kind e) && decide (Edg.kind e≤4))=b2→ifB ((!b2) && decide (0 < (↑(List.length (Edg.exc e)) : Int))) (Sp.rright a e=false) (List.length (Edg.exc e) < 9223372036854775808→(Edg.exc e=Edg.exc e∧(↑(List.length (Edg.exc e)) : Int)=(↑(List.length (Edg.exc e)) : Int)∧(0 : Int)≤0∧0≤(↑(List.length (Edg.exc e)) : Int)∧Edg.exc e=Edg.exc e∧Edg.kind e=Edg.kind e∧Edg.inner e=Edg.inner e∧List.length (Edg.exc e) < 9223372036854775808∧(0 < (↑(List.length (Edg.exc e)) : Int)→2≤Edg.kind e∧Edg.kind e≤4))∧regular_Automaton_right.l1 e∧(∀ i i1 i2 i3 i4 : Int, ∀ s : ByteArray, ∀ l l1 : List Tm, ∀ i5 : Int, (ite (Sp.rexc (Edg.kind e) (Sp.prev Inhabited.default (Edg.exc e) 0) (List.drop (Int.toNat 0) (Edg.exc e))=true) (LOut.brk ((↑(List.length (Edg.exc e)) : Int), Edg.src e, Edg.dst e, Edg.kind e, Tm.kind (Edg.sym e), Tm.text (Edg.sym e), Tm.kids (Edg.sym e), Edg.exc e, Edg.inner e)) (LOut.ret false) : LOut _ Bool)=LOut.brk (i, i1, i2, i3, i4, s, l, l1, i5)→(ifB (decide (i3=5)) (∀ b3 : Bool, Sp.rstate (Aut.mk (Aut.states a) (Aut.start a) (Aut.final a) (Aut.edges a)) i5=b3→Sp.rright a e=b3) (Sp.rright a e=decide (i5=0))))∧∀ b3 : Bool, (ite (Sp.rexc (Edg.kind e) (Sp.prev Inhabited.default (Edg.exc e) 0) (List.drop (Int.toNat 0) (Edg.exc e))=true) (LOut.brk ((↑(List.length (Edg.exc e)) : Int), Edg.src e, Edg.dst e, Edg.kind e, Tm.kind (Edg.sym e), Tm.text (Edg.sym e), Tm.kids (Edg.sym e), Edg.exc e, Edg.inner e)) (LOut.ret false) : LOut _ Bool)=LOut.ret b3→Sp.rright a e=b3))) (ifB ((!(decide (Tm.kind (Edg.sym e)=0))) || (!(decide (Tm.text (Edg.sym e)=(⟨#[]⟩ : ByteArray)))) || decide (0 < (↑(List.length (Tm.kids (Edg.sym e))) : Int))) (Sp.rright a e=false) (∀ b1 : Bool, (decide (2≤Edg.kind e) && decide (Edg.kind e≤4))=b1→ifB ((!b1) && decide (0 < (↑(List.length (Edg.exc e)) : Int))) (Sp.rright a e=false) (List.length (Edg.exc e) < 9223372036854775808→(Edg.exc e=Edg.exc e∧(↑(List.length (Edg.exc e)) : Int)=(↑(List.length (Edg.exc e)) : Int)∧(0 : Int)≤0∧0≤(↑(List.length (Edg.exc e)) : Int)∧Edg.exc e=Edg.exc e∧Edg.kind e=Edg.kind e∧Edg.inner e=Edg.inner e∧List.length (Edg.exc e) < 9223372036854775808∧(0 < (↑(List.length (Edg.exc e)) : Int)→2≤Edg.kind e∧Edg.kind e≤4))∧regular_Automaton_right.l1 e∧(∀ i i1 i2 i3 i4 : Int, ∀ s : ByteArray, ∀ l l1 : List Tm, ∀ i5 : Int, (ite (Sp.rexc (Edg.kind e) (Sp.prev Inhabited.default (Edg.exc e) 0) (List.drop (Int.toNat 0) (Edg.exc e))=true) (LOut.brk ((↑(List.length (Edg.exc e)) : Int), Edg.src e, Edg.dst e, Edg.kind e, Tm.kind (Edg.sym e), Tm.text (Edg.sym e), Tm.kids (Edg.sym e), Edg.exc e, Edg.inner e)) (LOut.ret false) : LOut _ Bool)=LOut.brk (i, i1, i2, i3, i4, s, l, l1, i5)→(ifB (decide (i3=5)) (∀ b2 : Bool, Sp.rstate (Aut.mk (Aut.states a) (Aut.start a) (Aut.final a) (Aut.edges a)) i5=b2→Sp.rright a e=b2) (Sp.rright a e=decide (i5=0))))∧∀ b2 : Bool, (ite (Sp.rexc (Edg.kind e) (Sp.prev Inhabited.default (Edg.exc e) 0) (List.drop (Int.toNat 0) (Edg.exc e))=true) (LOut.brk ((↑(List.length (Edg.exc e)) : Int), Edg.src e, Edg.dst e, Edg.kind e, Tm.kind (Edg.sym e), Tm.text (Edg.sym e), Tm.kids (Edg.sym e), Edg.exc e, Edg.inner e)) (LOut.ret false) : LOut _ Bool)=LOut.ret b2→Sp.rright a e=b2))))
def regular_Check_1.t (e : Edg) : Prop :=
 List.length (Edg.exc e) < 9223372036854775808→Sp.longE e=decide (100 < (↑(List.length (Edg.exc e)) : Int))
def slices_IndexFunc__c1.l0 (l : (List Edg)) : Prop :=
 ∀ l1 : List Edg, ∀ i i1 : Int, l1=l∧i=(↑(List.length l) : Int)∧0≤i1∧i1≤(↑(List.length l) : Int)∧List.length l < 9223372036854775808→ifB (decide (i1 < i)) ((0≤i1∧i1 < (↑(List.length l1) : Int))∧∀ b : Bool, Sp.longE (nth Inhabited.default l1 i1)=b→ifB b ((ite (List.any (List.drop (Int.toNat i1) l) Sp.longE=true) (LOut.ret (i1 + Sp.idxE Sp.longE (List.drop (Int.toNat i1) l))) (LOut.brk (↑(List.length l) : Int)) : LOut _ Int)=LOut.ret i1) (inR .i64 (i1 + 1)∧(l1=l∧i=(↑(List.length l) : Int)∧0≤i1 + 1∧i1 + 1≤(↑(List.length l) : Int)∧List.length l < 9223372036854775808)∧Int.toNat ((↑(List.length l) : Int) - (i1 + 1)) < Int.toNat ((↑(List.length l) : Int) - i1)∧(ite (List.any (List.drop (Int.toNat (i1 + 1)) l) Sp.longE=true) (LOut.ret (i1 + 1 + Sp.idxE Sp.longE (List.drop (Int.toNat (i1 + 1)) l))) (LOut.brk (↑(List.length l) : Int)) : LOut _ Int)=ite (List.any (List.drop (Int.toNat i1) l) Sp.longE=true) (LOut.ret (i1 + Sp.idxE Sp.longE (List.drop (Int.toNat i1) l))) (LOut.brk (↑(List.length l) : Int)))) ((ite (List.any (List.drop (Int.toNat i1) l) Sp.longE=true) (LOut.ret (i1 + Sp.idxE Sp.longE (List.drop (Int.toNat i1) l))) (LOut.brk (↑(List.length l) : Int)) : LOut _ Int)=LOut.brk i1)
def slices_IndexFunc__c1.t (l : (List Edg)) : Prop :=
 List.length l < 9223372036854775808→(l=l∧(↑(List.length l) : Int)=(↑(List.length l) : Int)∧(0 : Int)≤0∧0≤(↑(List.length l) : Int)∧List.length l < 9223372036854775808)∧slices_IndexFunc__c1.l0 l∧(∀ i : Int, (ite (List.any (List.drop (Int.toNat 0) l) Sp.longE=true) (LOut.ret (0 + Sp.idxE Sp.longE (List.drop (Int.toNat 0) l))) (LOut.brk (↑(List.length l) : Int)) : LOut _ Int)=LOut.brk i→Sp.idxE Sp.longE l=(-1))∧∀ i : Int, (ite (List.any (List.drop (Int.toNat 0) l) Sp.longE=true) (LOut.ret (0 + Sp.idxE Sp.longE (List.drop (Int.toNat 0) l))) (LOut.brk (↑(List.length l) : Int)) : LOut _ Int)=LOut.ret i→Sp.idxE Sp.longE l=i
def slices_ContainsFunc__c1.t (l : (List Edg)) : Prop :=
 ∀ i : Int, Sp.idxE Sp.longE l=i→List.any l Sp.longE=decide (0≤i)
end Go.AL
namespace Go.AL
set_option linter.unusedVariables false
set_option linter.unusedSimpArgs false
set_option maxRecDepth 10000
attribute [local irreducible] wpF wpFX wpM wpFM
theorem Sp.kinds_sort {k : Int} (h : 2 ≤ k ∧ k ≤ 4) : nth (0 : Int) [0, 0, 1, 2, 3] k = Sp.sortOf k := by
 have : k = 2 ∨ k = 3 ∨ k = 4 := by omega
 rcases this with rfl | rfl | rfl <;> rfl
theorem regular_set_has.main (x : Bts) (n : Int) (ha : 0 ≤ n ∧ n < 400) : regular_set_has.t x n := by
 have h1 : 0 ≤ n.tdiv 64 := Int.tdiv_nonneg ha.1 (by omega)
 have h2 : n.tdiv 64 < 7 := by rw [Int.tdiv_eq_ediv_of_nonneg ha.1]; omega
 have h3 : 0 ≤ n.tmod 64 := Int.tmod_nonneg _ ha.1
 exact ⟨⟨by omega, inR64 (by omega)⟩, ⟨h1, h2⟩, by omega, h3, rfl⟩
theorem regular_set_has.ok (W : World) : CtrOK Go.Proofs.Tryz.prog W 21 regular_set_has.C := by
 refine funOK (Γ := lookC []) (lookC_ok (fun p hp => by cases hp)) (Λ := fun a_ => match a_ with | (x, n) => (fun _ => none)) (Λr := fun a_ => match a_ with | (x, n) => (fun _ => none)) ?_
 intro a ha
 obtain ⟨x, n⟩ := a
 refine Eq.mpr ?_ (@regular_set_has.main x n ha)
 kernel_rfl
theorem regular_set_put.main (n b0 b1 b2 b3 b4 b5 b6 : Int) (ha : 0 ≤ n ∧ n < 400) : regular_set_put.t n b0 b1 b2 b3 b4 b5 b6 := by
 have h1 : 0 ≤ n.tdiv 64 := Int.tdiv_nonneg ha.1 (by omega)
 have h2 : n.tdiv 64 < 7 := by rw [Int.tdiv_eq_ediv_of_nonneg ha.1]; omega
 have h3 : 0 ≤ n.tmod 64 := Int.tmod_nonneg _ ha.1
 exact ⟨⟨by omega, inR64 (by omega)⟩, ⟨h1, h2⟩, by omega, h3, ⟨h1, h2⟩, rfl⟩
theorem regular_set_put.ok (W : World) : CtrOK Go.Proofs.Tryz.prog W 69 regular_set_put.C := by
 refine memOK (d := regular_set_put.d) (Γ := lookC []) (lookC_ok (fun p hp => by cases hp)) (Λ := fun c_ s_ => match c_, s_ with | n, (b0, b1, b2, b3, b4, b5, b6) => (fun _ => none)) (Λr := fun c_ s_ => match c_, s_ with | n, (b0, b1, b2, b3, b4, b5, b6) => (fun _ => none)) ?_
 intro c s hp
 obtain ⟨b0, b1, b2, b3, b4, b5, b6⟩ := s
 refine Eq.mpr ?_ (@regular_set_put.main c b0 b1 b2 b3 b4 b5 b6 hp)
 kernel_rfl
theorem regular_Edge_plain.main (e : Edg) : regular_Edge_plain.t e := rfl
theorem regular_Edge_plain.ok (W : World) : CtrOK Go.Proofs.Tryz.prog W 56 regular_Edge_plain.C := by
 refine funOK (Γ := lookC []) (lookC_ok (fun p hp => by cases hp)) (Λ := fun a_ => match a_ with | e => (fun _ => none)) (Λr := fun a_ => match a_ with | e => (fun _ => none)) ?_
 intro a ha
 refine Eq.mpr ?_ (@regular_Edge_plain.main a)
 kernel_rfl
theorem cmp_isNaN.main (x : Int) : cmp_isNaN.t x := by
 simp [cmp_isNaN.t]
theorem cmp_isNaN.ok (W : World) : CtrOK Go.Proofs.Tryz.prog W 128 cmp_isNaN.C := by
 refine funOK (Γ := lookC []) (lookC_ok (fun p hp => by cases hp)) (Λ := fun a_ => match a_ with | x => (fun _ => none)) (Λr := fun a_ => match a_ with | x => (fun _ => none)) ?_
 intro a ha
 refine Eq.mpr ?_ (@cmp_isNaN.main a)
 kernel_rfl
theorem cmp_isNaN_134.main (x : ByteArray) : cmp_isNaN_134.t x := by
 simp [cmp_isNaN_134.t]
theorem cmp_isNaN_134.ok (W : World) : CtrOK Go.Proofs.Tryz.prog W 134 cmp_isNaN_134.C := by
 refine funOK (Γ := lookC []) (lookC_ok (fun p hp => by cases hp)) (Λ := fun a_ => match a_ with | x => (fun _ => none)) (Λr := fun a_ => match a_ with | x => (fun _ => none)) ?_
 intro a ha
 refine Eq.mpr ?_ (@cmp_isNaN_134.main a)
 kernel_rfl
theorem cmp_Compare.main (x y : Int) : cmp_Compare.t x y := by
 rintro b rfl c rfl
 refine ifD (fun h => by rw [if_pos h]) fun h => ifD (fun h1 => by rw [if_neg h, if_pos h1]) fun h1 => by rw [if_neg h, if_neg h1]
theorem cmp_Compare.ok (W : World) : CtrOK Go.Proofs.Tryz.prog W 117 cmp_Compare.C := by
 refine funOK (Γ := lookC [(128, cmp_isNaN.C)]) (lookC_ok (fun p hp => by
  simp only [List.mem_cons, List.not_mem_nil, or_false] at hp
  subst hp; exact cmp_isNaN.ok W)) (Λ := fun a_ => match a_ with | (x, y) => (fun _ => none)) (Λr := fun a_ => match a_ with | (x, y) => (fun _ => none)) ?_
 intro a ha
 obtain ⟨x, y⟩ := a
 refine Eq.mpr ?_ (@cmp_Compare.main x y)
 kernel_rfl
theorem cmp_Compare_118.main (x y : ByteArray) : cmp_Compare_118.t x y := by
 rintro b rfl c rfl
 show ifB (Go.Op.bytesLess x.toList y.toList) _ _
 refine ifB_of (fun h => by simp [Sp.sign, h]) fun h => ifB_of (fun h1 => ?_) fun h1 => ?_
 ·simp at h1; simp [Sp.sign, h1]
 ·simp [h] at h1; subst h1; simp [Sp.sign, h]
theorem cmp_Compare_118.ok (W : World) : CtrOK Go.Proofs.Tryz.prog W 118 cmp_Compare_118.C := by
 refine funOK (Γ := lookC [(134, cmp_isNaN_134.C)]) (lookC_ok (fun p hp => by
  simp only [List.mem_cons, List.not_mem_nil, or_false] at hp
  subst hp; exact cmp_isNaN_134.ok W)) (Λ := fun a_ => match a_ with | (x, y) => (fun _ => none)) (Λr := fun a_ => match a_ with | (x, y) => (fun _ => none)) ?_
 intro a ha
 obtain ⟨x, y⟩ := a
 refine Eq.mpr ?_ (@cmp_Compare_118.main x y)
 kernel_rfl
theorem term_Compare.l0_ok (a b : List Tm) : term_Compare.l0 a b := by
 rintro l1 l2 m i ⟨e, e', h1, h2, h3, h4, h8⟩
 subst l1 l2 m
 refine ifD (fun h => ?_) fun h => ?_
 ·have hi : i.toNat < a.length := by omega
  have hj : i.toNat < b.length := by omega
  have hk := Sp.nodesL_mem (nth_mem (d := default) hi)
  have e1 : (i + 1).toNat = i.toNat + 1 := by omega
  rw [nth_drop (d := default) hi, nth_drop (d := default) hj]
  simp only [Sp.pfx, Sp.cmpT_eq, e1, forall_eq']
  refine ⟨by omega, by omega, ifN (fun h4 => ⟨by omega, by omega, ?_⟩) fun h4 => ⟨by omega, by omega, ifN (fun h5 => ⟨by omega, by omega, ?_⟩) fun h5 => ⟨by omega, by omega, ⟨trivial, by omega⟩, ifN (fun h6 => ?_) fun h6 => ⟨inR64 (by omega), ⟨trivial, trivial, by omega, by omega, by omega, trivial, h8⟩, by omega, ?_⟩⟩⟩⟩
  ·rw [if_neg h4]
   split
   ·simp
   ·have : (nth default b i).kind < (nth default a i).kind := by omega
    simp [this]
  ·have h7 : ¬ Sp.sign (nth default a i).text (nth default b i).text = 0 := fun h => h5 (Sp.sign_zero.1 h)
   simp [h4, h7]
  ·have h7 : Sp.sign (nth default a i).text (nth default b i).text = 0 := by
    rw [h5]; exact Sp.sign_zero.2 rfl
   simp [h4, h7, h6]
  ·have h7 : Sp.sign (nth default a i).text (nth default b i).text = 0 := by
    rw [h5]; exact Sp.sign_zero.2 rfl
   simp [h4, h7, h6]
 ·rw [Sp.pfx_end (show a.drop i.toNat = [] ∨ b.drop i.toNat = [] by
   rcases Int.le_total (a.length : Int) b.length with h5 | h5
   ·exact .inl (List.drop_eq_nil_of_le (by omega))
   ·exact .inr (List.drop_eq_nil_of_le (by omega))), if_pos rfl]
  congr 1; omega
theorem term_Compare.main (a b : List Tm) : term_Compare.t a b := by
 intro _ _
 refine ⟨⟨rfl, rfl, by omega, by omega, by omega, rfl, by omega⟩, term_Compare.l0_ok a b, fun i hi => fun h1 h2 => fun j hj => ?_, fun i hi => ?_⟩
 ·split at hi
  ·rename_i h
   simp only [Int.toNat_zero, List.drop_zero] at h
   rw [Sp.cmpL_pfx, if_pos h, ← hj]
   by_cases h3 : a.length < b.length
   ·rw [if_pos h3, if_pos (by omega)]
   ·rw [if_neg h3, if_neg (show ¬ (a.length : Int) < b.length by omega)]
    by_cases h4 : b.length < a.length
    ·rw [if_pos h4, if_pos (by omega)]
    ·rw [if_neg h4, if_neg (by omega)]
  ·simp at hi
 ·split at hi
  ·simp at hi
  ·rename_i h
   simp only [Int.toNat_zero, List.drop_zero] at h hi
   rw [Sp.cmpL_pfx, if_neg h]
   simpa using hi
theorem term_Compare.ok (W : World) : CtrOK Go.Proofs.Tryz.prog W 90 term_Compare.C := by
 refine funOK_rec (fun (a_ : (List Tm) × (List Tm)) => match a_ with | (a, b) => Sp.nodesL a) (l := [(117, cmp_Compare.C), (118, cmp_Compare_118.C)]) (fun p hp => by
  simp only [List.mem_cons, List.not_mem_nil, or_false] at hp
  rcases hp with rfl | rfl
  ·exact cmp_Compare.ok W
  ·exact cmp_Compare_118.ok W) (Λ := fun a_ => match a_ with | (a, b) => (term_Compare.Λ a b)) (Λr := fun a_ => match a_ with | (a, b) => (fun _ => none)) ?_
 intro a ha
 obtain ⟨a, b⟩ := a
 refine Eq.mpr ?_ (@term_Compare.main a b)
 kernel_rfl
theorem regular_compare.main (a b : Tm) : regular_compare.t a b := by
 intro i hi
 rw [Tm.eta, Tm.eta] at hi
 exact hi
theorem regular_compare.ok (W : World) : CtrOK Go.Proofs.Tryz.prog W 58 regular_compare.C := by
 refine funOK (Γ := lookC [(90, term_Compare.C)]) (lookC_ok (fun p hp => by
  simp only [List.mem_cons, List.not_mem_nil, or_false] at hp
  subst hp; exact term_Compare.ok W)) (Λ := fun a_ => match a_ with | (a, b) => (fun _ => none)) (Λr := fun a_ => match a_ with | (a, b) => (fun _ => none)) ?_
 intro a ha
 obtain ⟨a, b⟩ := a
 refine Eq.mpr ?_ (@regular_compare.main a b)
 kernel_rfl
theorem regular_Automaton_isState.main (a : Aut) (n : Int) : regular_Automaton_isState.t a n := rfl
theorem regular_Automaton_isState.ok (W : World) : CtrOK Go.Proofs.Tryz.prog W 26 regular_Automaton_isState.C := by
 refine funOK (Γ := lookC []) (lookC_ok (fun p hp => by cases hp)) (Λ := fun a_ => match a_ with | (a, n) => (fun _ => none)) (Λr := fun a_ => match a_ with | (a, n) => (fun _ => none)) ?_
 intro a ha
 obtain ⟨a, n⟩ := a
 refine Eq.mpr ?_ (@regular_Automaton_isState.main a n)
 kernel_rfl
theorem regular_kinds.main : regular_kinds.t := rfl
theorem regular_kinds.ok (W : World) : CtrOK Go.Proofs.Tryz.prog W 57 regular_kinds.C := by
 refine funOK (Γ := lookC []) (lookC_ok (fun p hp => by cases hp)) (Λ := fun a_ => match a_ with | () => (fun _ => none)) (Λr := fun a_ => match a_ with | () => (fun _ => none)) ?_
 intro a ha
 refine Eq.mpr ?_ (@regular_kinds.main )
 kernel_rfl
theorem regular_symbol.main (t : Tm) (ha : Sp.okL [t]) : regular_symbol.t t := by
 intro b hb
 rw [Tm.eta] at hb ⊢
 exact ⟨fun _ => ha, by rw [Sp.rsym, hb]⟩
theorem regular_symbol.ok (W : World) : CtrOK Go.Proofs.Tryz.prog W 55 regular_symbol.C := by
 refine funOK (Γ := lookC [(13, term_Value.C), (89, term_IsSymbol.C)]) (lookC_ok (fun p hp => by
  simp only [List.mem_cons, List.not_mem_nil, or_false] at hp
  rcases hp with rfl | rfl
  ·exact term_Value.ok W
  ·exact term_IsSymbol.ok W)) (Λ := fun a_ => match a_ with | t => (fun _ => none)) (Λr := fun a_ => match a_ with | t => (fun _ => none)) ?_
 intro a ha
 refine Eq.mpr ?_ (@regular_symbol.main a ha)
 kernel_rfl
theorem regular_Automaton_right.l1_ok (e : Edg) (ha : ∀ t ∈ e.exc, Sp.okL [t]) : regular_Automaton_right.l1 e := by
 rintro l n i sr ds k sk sx sl ex inn ⟨e0, e1, h1, h2, e2, e3, e4, h3, h4⟩
 subst l n ex k inn
 refine ifD (fun h => ?_) fun h => ?_
 ·have hi : i.toNat < e.exc.length := by omega
  have hk := h4 (by omega)
  simp only [Tm.eta, Sp.kinds_sort hk]
  refine ⟨by omega, ha _ (nth_mem hi), fun _ => by omega, fun _ => inR64 (by omega), fun q => ?_, ?_⟩
  ·have := q.1; simp at this; omega
  rw [Sp.rexc_step _ _ _ h1 hi]
  refine ifB_of (fun hb => ?_) fun hb => ⟨inR64 (by omega), ⟨by trivial, by trivial, by omega, by omega, by trivial, by trivial, by trivial, h3, h4⟩, by omega, ?_⟩
  ·rw [if_neg]
   simp only [Bool.and_eq_true, Bool.or_eq_true, Bool.not_eq_true', Bool.or_eq_false_iff, Bool.and_eq_false_iff, Bool.not_eq_false', decide_eq_true_eq, decide_eq_false_iff_not, mk_empty] at hb
   rcases hb with (hb | hb) | hb
   ·simp [hb]
   ·simp [hb]
   ·have : ¬ i = 0 := by omega
    have h9 : ¬ Sp.cmpL [nth default e.exc (i - 1)] [nth default e.exc i] < 0 := by omega
    simp [this, h9]
  ·simp only [Bool.and_eq_true, Bool.or_eq_true, Bool.not_eq_true', Bool.or_eq_false_iff, Bool.and_eq_false_iff, Bool.not_eq_false', decide_eq_true_eq, decide_eq_false_iff_not, mk_empty] at hb
   have h7 : (decide (i = 0) || decide (Sp.cmpL [nth default e.exc (i - 1)] [nth default e.exc i] < 0)) = true := by
    simp only [Bool.and_eq_true, Bool.or_eq_true, Bool.not_eq_true', Bool.or_eq_false_iff, Bool.and_eq_false_iff, Bool.not_eq_false', decide_eq_true_eq, decide_eq_false_iff_not, mk_empty]
    rcases hb.2 with h8 | h8
    ·left; omega
    ·right; omega
   rw [h7, hb.1.1, decide_eq_true hb.1.2]
   rfl
 ·rw [List.drop_eq_nil_of_le (by omega), show i = e.exc.length by omega]
  rfl
theorem regular_Automaton_right.main (a : Aut) (e : Edg) (ha : Sp.okL [e.sym] ∧ ∀ t ∈ e.exc, Sp.okL [t]) : regular_Automaton_right.t a e := by
 intro b hb
 subst b
 rw [show Aut.mk a.states a.start a.final a.edges = a from rfl, Tm.eta]
 refine ifB_of (fun h => ?_) fun h => ?_
 ·simp only [Bool.and_eq_true, Bool.or_eq_true, Bool.not_eq_true', Bool.or_eq_false_iff, Bool.and_eq_false_iff, Bool.not_eq_false', decide_eq_true_eq, decide_eq_false_iff_not, mk_empty] at h
  simp only [Sp.rright]
  rcases h with ((h | h) | h) | h
  ·simp [h]
  ·simp [h]
  ·simp [show ¬ 1 ≤ e.kind by omega]
  ·simp [show ¬ e.kind ≤ 5 by omega]
 simp only [Bool.and_eq_true, Bool.or_eq_true, Bool.not_eq_true', Bool.or_eq_false_iff, Bool.and_eq_false_iff, Bool.not_eq_false', decide_eq_true_eq, decide_eq_false_iff_not, mk_empty] at h
 refine ifD (fun hk => ⟨ha.1, fun b1 hb1 => ?_⟩) fun hk => ifB_of (fun hz => ?_) fun hz => ?_
 ·refine ifB_of (fun hn => ?_) fun hn => ?_
  ·have hn' : Sp.rsym e.sym = false := by rw [hb1]; simpa using hn
   simp [Sp.rright, hk, hn']
  ·have h10 : (if e.kind = 1 then Sp.rsym e.sym else Sp.rzero e.sym) = true := by
    rw [if_pos hk, hb1]; simpa using hn
   exact fun b2 hb2 => by
    subst b2
    refine ifB_of (fun h3 => ?_) fun h3 => fun hs => ⟨⟨rfl, rfl, by omega, by omega, rfl, rfl, rfl, hs, fun hp => ?_⟩, regular_Automaton_right.l1_ok e ha.2, fun i i1 i2 i3 i4 s l l1 i5 hq => ?_, fun b hq => ?_⟩
    ·simp only [Bool.and_eq_true, Bool.or_eq_true, Bool.not_eq_true', Bool.or_eq_false_iff, Bool.and_eq_false_iff, Bool.not_eq_false', decide_eq_true_eq, decide_eq_false_iff_not, mk_empty] at h3
     have h4 : (decide (e.kind ≠ 1) && decide (e.kind ≠ 5) || decide (e.exc.length = 0)) = false := by
      simp only [Bool.and_eq_true, Bool.or_eq_true, Bool.not_eq_true', Bool.or_eq_false_iff, Bool.and_eq_false_iff, Bool.not_eq_false', decide_eq_true_eq, decide_eq_false_iff_not, mk_empty]
      refine ⟨?_, by omega⟩
      rcases h3.1 with h5 | h5
      ·exact .inl (by omega)
      ·exact .inr (by omega)
     simp only [Sp.rright]
     rw [h4]; simp
    ·simp only [Bool.and_eq_true, Bool.or_eq_true, Bool.not_eq_true', Bool.or_eq_false_iff, Bool.and_eq_false_iff, Bool.not_eq_false', decide_eq_true_eq, decide_eq_false_iff_not, mk_empty] at h3
     rcases h3 with h5 | h5
     ·exact h5
     ·omega
    ·obtain ⟨h6, h7⟩ := ite_brk hq
     simp only [Prod.mk.injEq] at h7
     obtain ⟨_, _, _, e1, _, _, _, _, e2⟩ := h7
     subst e1 e2
     simp only [Int.toNat_zero, List.drop_zero, Sp.prev, if_true] at h6
     simp only [Bool.and_eq_true, Bool.or_eq_true, Bool.not_eq_true', Bool.or_eq_false_iff, Bool.and_eq_false_iff, Bool.not_eq_false', decide_eq_true_eq, decide_eq_false_iff_not, mk_empty] at h3
     have h8 : (decide (e.kind ≠ 1) && decide (e.kind ≠ 5) || decide (e.exc.length = 0)) = true := by
      simp only [Bool.and_eq_true, Bool.or_eq_true, Bool.not_eq_true', Bool.or_eq_false_iff, Bool.and_eq_false_iff, Bool.not_eq_false', decide_eq_true_eq, decide_eq_false_iff_not, mk_empty]
      rcases h3 with h3 | h3
      ·exact .inl ⟨by omega, by omega⟩
      ·exact .inr (by omega)
     have hR : Sp.rright a e = (if e.kind = 5 then Sp.rstate a e.inner else decide (e.inner = 0)) := by
      simp only [Sp.rright]
      rw [h.1.1.1, h.1.1.2, h6, h8, h10, decide_eq_true (show 1 ≤ e.kind by omega), decide_eq_true (show e.kind ≤ 5 by omega)]
      simp
     rw [hR]
     refine ifD (fun h5 => ?_) fun h5 => by rw [if_neg h5]
     rintro b rfl
     rw [if_pos h5]
    ·obtain ⟨h6, h7⟩ := ite_ret hq
     simp only [Int.toNat_zero, List.drop_zero, Sp.prev, if_true] at h6
     have h6' : Sp.rexc e.kind none e.exc = false := by simpa using h6
     rw [← h7]
     simp [Sp.rright, h6']
 ·simp only [Bool.and_eq_true, Bool.or_eq_true, Bool.not_eq_true', Bool.or_eq_false_iff, Bool.and_eq_false_iff, Bool.not_eq_false', decide_eq_true_eq, decide_eq_false_iff_not, mk_empty] at hz
  have h10 : Sp.rzero e.sym = false := by
   simp only [Sp.rzero, Bool.and_eq_true, Bool.or_eq_true, Bool.not_eq_true', Bool.or_eq_false_iff, Bool.and_eq_false_iff, Bool.not_eq_false', decide_eq_true_eq, decide_eq_false_iff_not, mk_empty]
   rcases hz with (hz | hz) | hz
   ·exact .inl (.inl hz)
   ·exact .inl (.inr hz)
   ·exact .inr (by omega)
  simp [Sp.rright, hk, h10]
 ·have h10 : (if e.kind = 1 then Sp.rsym e.sym else Sp.rzero e.sym) = true := by
   rw [if_neg hk]
   simp only [Bool.and_eq_true, Bool.or_eq_true, Bool.not_eq_true', Bool.or_eq_false_iff, Bool.and_eq_false_iff, Bool.not_eq_false', decide_eq_true_eq, decide_eq_false_iff_not, mk_empty] at hz
   simp only [Sp.rzero, Bool.and_eq_true, Bool.or_eq_true, Bool.not_eq_true', Bool.or_eq_false_iff, Bool.and_eq_false_iff, Bool.not_eq_false', decide_eq_true_eq, decide_eq_false_iff_not, mk_empty]
   exact ⟨⟨hz.1.1, hz.1.2⟩, by omega⟩
  exact fun b2 hb2 => by
   subst b2
   refine ifB_of (fun h3 => ?_) fun h3 => fun hs => ⟨⟨rfl, rfl, by omega, by omega, rfl, rfl, rfl, hs, fun hp => ?_⟩, regular_Automaton_right.l1_ok e ha.2, fun i i1 i2 i3 i4 s l l1 i5 hq => ?_, fun b hq => ?_⟩
   ·simp only [Bool.and_eq_true, Bool.or_eq_true, Bool.not_eq_true', Bool.or_eq_false_iff, Bool.and_eq_false_iff, Bool.not_eq_false', decide_eq_true_eq, decide_eq_false_iff_not, mk_empty] at h3
    have h4 : (decide (e.kind ≠ 1) && decide (e.kind ≠ 5) || decide (e.exc.length = 0)) = false := by
     simp only [Bool.and_eq_true, Bool.or_eq_true, Bool.not_eq_true', Bool.or_eq_false_iff, Bool.and_eq_false_iff, Bool.not_eq_false', decide_eq_true_eq, decide_eq_false_iff_not, mk_empty]
     refine ⟨?_, by omega⟩
     rcases h3.1 with h5 | h5
     ·exact .inl (by omega)
     ·exact .inr (by omega)
    simp only [Sp.rright]
    rw [h4]; simp
   ·simp only [Bool.and_eq_true, Bool.or_eq_true, Bool.not_eq_true', Bool.or_eq_false_iff, Bool.and_eq_false_iff, Bool.not_eq_false', decide_eq_true_eq, decide_eq_false_iff_not, mk_empty] at h3
    rcases h3 with h5 | h5
    ·exact h5
    ·omega
   ·obtain ⟨h6, h7⟩ := ite_brk hq
    simp only [Prod.mk.injEq] at h7
    obtain ⟨_, _, _, e1, _, _, _, _, e2⟩ := h7
    subst e1 e2
    simp only [Int.toNat_zero, List.drop_zero, Sp.prev, if_true] at h6
    simp only [Bool.and_eq_true, Bool.or_eq_true, Bool.not_eq_true', Bool.or_eq_false_iff, Bool.and_eq_false_iff, Bool.not_eq_false', decide_eq_true_eq, decide_eq_false_iff_not, mk_empty] at h3
    have h8 : (decide (e.kind ≠ 1) && decide (e.kind ≠ 5) || decide (e.exc.length = 0)) = true := by
     simp only [Bool.and_eq_true, Bool.or_eq_true, Bool.not_eq_true', Bool.or_eq_false_iff, Bool.and_eq_false_iff, Bool.not_eq_false', decide_eq_true_eq, decide_eq_false_iff_not, mk_empty]
     rcases h3 with h3 | h3
     ·exact .inl ⟨by omega, by omega⟩
     ·exact .inr (by omega)
    have hR : Sp.rright a e = (if e.kind = 5 then Sp.rstate a e.inner else decide (e.inner = 0)) := by
     simp only [Sp.rright]
     rw [h.1.1.1, h.1.1.2, h6, h8, h10, decide_eq_true (show 1 ≤ e.kind by omega), decide_eq_true (show e.kind ≤ 5 by omega)]
     simp
    rw [hR]
    refine ifD (fun h5 => ?_) fun h5 => by rw [if_neg h5]
    rintro b rfl
    rw [if_pos h5]
   ·obtain ⟨h6, h7⟩ := ite_ret hq
    simp only [Int.toNat_zero, List.drop_zero, Sp.prev, if_true] at h6
    have h6' : Sp.rexc e.kind none e.exc = false := by simpa using h6
    rw [← h7]
    simp [Sp.rright, h6']
theorem regular_Automaton_right.ok (W : World) : CtrOK Go.Proofs.Tryz.prog W 28 regular_Automaton_right.C := by
 refine funOK (Γ := lookC [(26, regular_Automaton_isState.C), (55, regular_symbol.C), (56, regular_Edge_plain.C), (57, regular_kinds.C), (58, regular_compare.C)]) (lookC_ok (fun p hp => by
  simp only [List.mem_cons, List.not_mem_nil, or_false] at hp
  rcases hp with rfl | rfl | rfl | rfl | rfl
  ·exact regular_Automaton_isState.ok W
  ·exact regular_symbol.ok W
  ·exact regular_Edge_plain.ok W
  ·exact regular_kinds.ok W
  ·exact regular_compare.ok W)) (Λ := fun a_ => match a_ with | (a, e) => (regular_Automaton_right.Λ a e)) (Λr := fun a_ => match a_ with | (a, e) => (fun _ => none)) ?_
 intro a ha
 obtain ⟨a, e⟩ := a
 refine Eq.mpr ?_ (@regular_Automaton_right.main a e ha)
 kernel_rfl
theorem regular_Check_1.main (e : Edg) : regular_Check_1.t e := fun _ => rfl
theorem regular_Check_1.ok (W : World) : CtrOK Go.Proofs.Tryz.prog W 25 regular_Check_1.C := by
 refine funOK (Γ := lookC []) (lookC_ok (fun p hp => by cases hp)) (Λ := fun a_ => match a_ with | e => (fun _ => none)) (Λr := fun a_ => match a_ with | e => (fun _ => none)) ?_
 intro a ha
 refine Eq.mpr ?_ (@regular_Check_1.main a)
 kernel_rfl
theorem slices_IndexFunc__c1.l0_ok (l : List Edg) : slices_IndexFunc__c1.l0 l := by
 rintro l1 n i ⟨e1, e2, h1, h2, h3⟩
 subst l1 n
 refine ifD (fun h => ?_) fun h => ?_
 ·have hi : i.toNat < l.length := by omega
  have e := nth_drop (d := default) hi
  refine ⟨by omega, ?_⟩
  rintro b hb
  rw [e]
  refine ifB_of (fun h4 => ?_) fun h4 => ?_
  ·rw [List.any_cons, Sp.idxE, hb, h4]; simp
  ·refine ⟨inR64 (by omega), ⟨by trivial, by trivial, by omega, by omega, h3⟩, by omega, ?_⟩
   rw [List.any_cons, Sp.idxE, hb, h4, show (i + 1).toNat = i.toNat + 1 by omega]
   simp only [Bool.false_or, Bool.false_eq_true, if_false]
   by_cases hc : (List.drop (i.toNat + 1) l).any Sp.longE = true
   ·rw [if_pos hc, if_pos hc]
    have h5 := Sp.idxE_any Sp.longE (List.drop (i.toNat + 1) l)
    rw [hc] at h5
    simp only [decide_eq_true_eq] at h5
    rw [if_neg (by omega)]; congr 1; omega
   ·rw [if_neg hc, if_neg hc]
 ·rw [List.drop_eq_nil_of_le (by omega)]
  simp; omega
theorem slices_IndexFunc__c1.main (l : List Edg) : slices_IndexFunc__c1.t l := by
 refine fun h => ⟨⟨rfl, rfl, by omega, by omega, h⟩, slices_IndexFunc__c1.l0_ok l, fun i h => ?_, fun i h => ?_⟩
 ·have h5 := Sp.idxE_any Sp.longE l
  have h6 := Sp.idxE_ge Sp.longE l
  simp only [Int.toNat_zero, List.drop_zero] at h
  split at h
  ·cases h
  ·rename_i h7
   have : l.any Sp.longE = false := by simpa using h7
   rw [this] at h5; simp only [decide_eq_false_iff_not] at h5; omega
 ·simp only [Int.toNat_zero, List.drop_zero] at h
  split at h
  ·simp only [LOut.ret.injEq] at h; omega
  ·cases h
theorem slices_IndexFunc__c1.ok (W : World) : CtrOK Go.Proofs.Tryz.prog W 54 slices_IndexFunc__c1.C := by
 refine funOKX (Γ := lookC [(25, regular_Check_1.C)]) (lookC_ok (fun p hp => by
  simp only [List.mem_cons, List.not_mem_nil, or_false] at hp
  subst hp; exact regular_Check_1.ok W)) (Λ := fun a_ => match a_ with | l => (slices_IndexFunc__c1.Λ l)) (Λr := fun a_ => match a_ with | l => (fun _ => none)) ?_
 intro a ha
 refine Eq.mpr ?_ (@slices_IndexFunc__c1.main a)
 kernel_rfl
theorem slices_ContainsFunc__c1.main (l : List Edg) : slices_ContainsFunc__c1.t l := by
 rintro i rfl
 exact (Sp.idxE_any Sp.longE l).symm
theorem slices_ContainsFunc__c1.ok (W : World) : CtrOK Go.Proofs.Tryz.prog W 24 slices_ContainsFunc__c1.C := by
 refine funOKX (Γ := lookC [(54, slices_IndexFunc__c1.C)]) (lookC_ok (fun p hp => by
  simp only [List.mem_cons, List.not_mem_nil, or_false] at hp
  subst hp; exact slices_IndexFunc__c1.ok W)) (Λ := fun a_ => match a_ with | l => (fun _ => none)) (Λr := fun a_ => match a_ with | l => (fun _ => none)) ?_
 intro a ha
 refine Eq.mpr ?_ (@slices_ContainsFunc__c1.main a)
 kernel_rfl
end Go.AL
namespace Go.AL
set_option linter.unusedVariables false
end Go.AL
namespace Sp
open Go.AL
def idxT (p : Tm → Bool) : List Tm → Int
 | [] => -1
 | b :: l => if p b then 0 else if idxT p l = -1 then -1 else idxT p l + 1
theorem idxT_ge (p : Tm → Bool) : ∀ l : List Tm, -1 ≤ idxT p l
 | [] => by simp [idxT]
 | b :: l => by
   have := idxT_ge p l
   rw [idxT]
   split
   ·omega
   ·split <;> omega
theorem idxT_any (p : Tm → Bool) : ∀ l : List Tm, decide (0 ≤ idxT p l) = l.any p
 | [] => by simp [idxT]
 | b :: l => by
   have ih := idxT_any p l
   have := idxT_ge p l
   rw [idxT, List.any_cons, ← ih]
   cases p b with
   | true => simp
   | false =>
     by_cases h1 : idxT p l = -1
     ·simp [h1]
     ·simp only [Bool.false_eq_true, if_false, h1, Bool.false_or]
      congr 1
      simp only [eq_iff_iff]
      omega
def hasT (k : Int) (x : ByteArray) (ks : List Tm) (t : Tm) : Bool := decide (cmpL [t] [⟨k, x, ks⟩] = 0)
end Sp
namespace Go.AL
def regular_has_1.d : LD := ({ cs := [0], cts := [.nm 0], pts := [(1, .loc 0 0)], vs := [], os := [(0, .plain, [none, none, none])], vts := [.int .i64, .str, .lst (.nm 0)], own := [false, false, false], ro := [0, 1], nx := 1 } : LD)
def regular_has_1.C : Ctr := memCtr regular_has_1.d [.bool] none (fun (c_ : ElT [.nm 0]) (s_ : ElT [.int .i64, .str, .lst (.nm 0)]) => match c_, s_ with | t, (k, x, ks) => ((Sp.hasT k x ks t, (k, x, ks))))
def slices_IndexFunc_129__h.d : LD := ({ cs := [0], cts := [.lst (.nm 0)], pts := [(1, .fn 115 [] [.loc 0 0])], vs := [], os := [(0, .plain, [none, none, none])], vts := [.int .i64, .str, .lst (.nm 0)], own := [false, false, false], ro := [0, 1], nx := 1 } : LD)
def slices_IndexFunc_129__h.L0 : LD := { cs := [0, 7], cts := [.lst (.nm 0), .int .i64], pts := [(1, (.fn 115 [] [(.loc 0 0)]))], vs := [4, 8], os := [(0, .plain, [none, none, none])], vts := [.int .i64, .int .i64, .int .i64, .str, .lst (.nm 0)], own := [false, false, false, false, false], ro := [0, 1, 6, 7], nx := 100 }
def slices_IndexFunc_129__h.Λ (l : (List Tm)) (k : Int) (x : ByteArray) (ks : (List Tm)) : Nat → Option (Loop (ElT [.bool])) := fun id =>
 if id = 0 then some (mkLoop slices_IndexFunc_129__h.L0
  (fun (c_ : (List Tm) × Int) (s_ : Int × Int × Int × ByteArray × (List Tm)) => match c_, s_ with | (c_l, m), (r, i, k1, x1, ks1) => c_l = l ∧ m = l.length ∧ 0 ≤ i ∧ i ≤ l.length ∧ l.length < 9223372036854775808 ∧ k1 = k ∧ x1 = x ∧ ks1 = ks)
  (fun (c_ : (List Tm) × Int) (s_ : Int × Int × Int × ByteArray × (List Tm)) => match c_, s_ with | (c_l, m), (r, i, k1, x1, ks1) => (l.length - i : Int).toNat)
  (fun (c_ : (List Tm) × Int) (s_ : Int × Int × Int × ByteArray × (List Tm)) => match c_, s_ with | (c_l, m), (r, i, k1, x1, ks1) => if (l.drop i.toNat).any (Sp.hasT k x ks) = true then .ext 9999 (i + Sp.idxT (Sp.hasT k x ks) (l.drop i.toNat), i + Sp.idxT (Sp.hasT k x ks) (l.drop i.toNat), k1, x1, ks1) else .brk (r, (l.length : Int), k1, x1, ks1)) [9999] false) else
 none
def slices_IndexFunc_129__h.C : Ctr := memCtr slices_IndexFunc_129__h.d [.int .i64] none (fun (c_ : ElT [.lst (.nm 0)]) (s_ : ElT [.int .i64, .str, .lst (.nm 0)]) => match c_, s_ with | l, (k, x, ks) => ((Sp.idxT (Sp.hasT k x ks) l, (k, x, ks))))
def slices_ContainsFunc_114__h.d : LD := ({ cs := [0], cts := [.lst (.nm 0)], pts := [(1, .fn 115 [] [.loc 0 0])], vs := [], os := [(0, .plain, [none, none, none])], vts := [.int .i64, .str, .lst (.nm 0)], own := [false, false, false], ro := [0, 1], nx := 1 } : LD)
def slices_ContainsFunc_114__h.C : Ctr := memCtr slices_ContainsFunc_114__h.d [.bool] none (fun (c_ : ElT [.lst (.nm 0)]) (s_ : ElT [.int .i64, .str, .lst (.nm 0)]) => match c_, s_ with | l, (k, x, ks) => ((l.any (Sp.hasT k x ks), (k, x, ks))))
def regular_has.C : Ctr := pureCtr [.lst (.nm 0), .nm 0] [.bool] none (fun (a_ : (List Tm) × Tm) => match a_ with | (l, t) => (Sp.rmem l t))
def regular_Edge_reads.C : Ctr := pureCtr [.nm 6, .nm 0] [.bool] (some (fun (a_ : Edg × Tm) => match a_ with | (e, t) => 1 ≤ e.kind ∧ e.kind ≤ 5)) (fun (a_ : Edg × Tm) => match a_ with | (e, t) => (Sp.rreads e t))
end Go.AL
namespace Go.AL
set_option linter.unusedVariables false
set_option maxRecDepth 10000
def regular_has_1.t (t : Tm) (k : Int) (x : ByteArray) (ks : (List Tm)) : Prop :=
 ∀ i : Int, Sp.cmpL (Tm.mk (Tm.kind t) (Tm.text t) (Tm.kids t) :: ([] : List Tm)) (Tm.mk k x ks :: ([] : List Tm))=i→(Sp.hasT k x ks t, k, x, ks)=(decide (i=0), k, x, ks)
def slices_IndexFunc_129__h.l0 (l : (List Tm)) (k : Int) (x : ByteArray) (ks : (List Tm)) : Prop :=
 ∀ l1 : List Tm, ∀ i i1 i2 i3 : Int, ∀ s : ByteArray, ∀ l2 : List Tm, l1=l∧i=(↑(List.length l) : Int)∧0≤i2∧i2≤(↑(List.length l) : Int)∧List.length l < 9223372036854775808∧i3=k∧s=x∧l2=ks→ifB (decide (i2 < i)) ((0≤i2∧i2 < (↑(List.length l1) : Int))∧∀ b : Bool, ∀ i4 : Int, ∀ s1 : ByteArray, ∀ l3 : List Tm, (Sp.hasT i3 s l2 (nth Inhabited.default l1 i2), i3, s, l2)=(b, i4, s1, l3)→ifB b ((ite (List.any (List.drop (Int.toNat i2) l) (Sp.hasT k x ks)=true) (LOut.ext 9999 (i2 + Sp.idxT (Sp.hasT k x ks) (List.drop (Int.toNat i2) l), i2 + Sp.idxT (Sp.hasT k x ks) (List.drop (Int.toNat i2) l), i3, s, l2)) (LOut.brk (i1, (↑(List.length l) : Int), i3, s, l2)) : LOut _ Bool)=LOut.ext 9999 (i2, i2, i4, s1, l3)) (inR .i64 (i2 + 1)∧(l1=l∧i=(↑(List.length l) : Int)∧0≤i2 + 1∧i2 + 1≤(↑(List.length l) : Int)∧List.length l < 9223372036854775808∧i4=k∧s1=x∧l3=ks)∧Int.toNat ((↑(List.length l) : Int) - (i2 + 1)) < Int.toNat ((↑(List.length l) : Int) - i2)∧(ite (List.any (List.drop (Int.toNat (i2 + 1)) l) (Sp.hasT k x ks)=true) (LOut.ext 9999 (i2 + 1 + Sp.idxT (Sp.hasT k x ks) (List.drop (Int.toNat (i2 + 1)) l), i2 + 1 + Sp.idxT (Sp.hasT k x ks) (List.drop (Int.toNat (i2 + 1)) l), i4, s1, l3)) (LOut.brk (i1, (↑(List.length l) : Int), i4, s1, l3)) : LOut _ Bool)=ite (List.any (List.drop (Int.toNat i2) l) (Sp.hasT k x ks)=true) (LOut.ext 9999 (i2 + Sp.idxT (Sp.hasT k x ks) (List.drop (Int.toNat i2) l), i2 + Sp.idxT (Sp.hasT k x ks) (List.drop (Int.toNat i2) l), i3, s, l2)) (LOut.brk (i1, (↑(List.length l) : Int), i3, s, l2)))) ((ite (List.any (List.drop (Int.toNat i2) l) (Sp.hasT k x ks)=true) (LOut.ext 9999 (i2 + Sp.idxT (Sp.hasT k x ks) (List.drop (Int.toNat i2) l), i2 + Sp.idxT (Sp.hasT k x ks) (List.drop (Int.toNat i2) l), i3, s, l2)) (LOut.brk (i1, (↑(List.length l) : Int), i3, s, l2)) : LOut _ Bool)=LOut.brk (i1, i2, i3, s, l2))
def slices_IndexFunc_129__h.t (l : (List Tm)) (k : Int) (x : ByteArray) (ks : (List Tm)) : Prop :=
 List.length l < 9223372036854775808→(l=l∧(↑(List.length l) : Int)=(↑(List.length l) : Int)∧(0 : Int)≤0∧0≤(↑(List.length l) : Int)∧List.length l < 9223372036854775808∧k=k∧x=x∧ks=ks)∧slices_IndexFunc_129__h.l0 l k x ks∧(∀ i i1 i2 : Int, ∀ s : ByteArray, ∀ l1 : List Tm, (ite (List.any (List.drop (Int.toNat 0) l) (Sp.hasT k x ks)=true) (LOut.ext 9999 (0 + Sp.idxT (Sp.hasT k x ks) (List.drop (Int.toNat 0) l), 0 + Sp.idxT (Sp.hasT k x ks) (List.drop (Int.toNat 0) l), k, x, ks)) (LOut.brk (0, (↑(List.length l) : Int), k, x, ks)) : LOut (Int × Int × Int × ByteArray × List Tm) Bool)=LOut.brk (i, i1, i2, s, l1)→(Sp.idxT (Sp.hasT k x ks) l, k, x, ks)=(-1, i2, s, l1))∧∀ i i1 i2 : Int, ∀ s : ByteArray, ∀ l1 : List Tm, (ite (List.any (List.drop (Int.toNat 0) l) (Sp.hasT k x ks)=true) (LOut.ext 9999 (0 + Sp.idxT (Sp.hasT k x ks) (List.drop (Int.toNat 0) l), 0 + Sp.idxT (Sp.hasT k x ks) (List.drop (Int.toNat 0) l), k, x, ks)) (LOut.brk (0, (↑(List.length l) : Int), k, x, ks)) : LOut (Int × Int × Int × ByteArray × List Tm) Bool)=LOut.ext 9999 (i, i1, i2, s, l1)→(Sp.idxT (Sp.hasT k x ks) l, k, x, ks)=(i, i2, s, l1)
def slices_ContainsFunc_114__h.t (l : (List Tm)) (k : Int) (x : ByteArray) (ks : (List Tm)) : Prop :=
 ∀ i i1 : Int, ∀ s : ByteArray, ∀ l1 : List Tm, (Sp.idxT (Sp.hasT k x ks) l, k, x, ks)=(i, i1, s, l1)→(List.any l (Sp.hasT k x ks), k, x, ks)=(decide (0≤i), i1, s, l1)
def regular_has.t (l : (List Tm)) (t : Tm) : Prop :=
 ∀ b : Bool, ∀ i : Int, ∀ s : ByteArray, ∀ l1 : List Tm, (List.any l (Sp.hasT (Tm.kind t) (Tm.text t) (Tm.kids t)), Tm.kind t, Tm.text t, Tm.kids t)=(b, i, s, l1)→Sp.rmem l t=b
def regular_Edge_reads.t (e : Edg) (t : Tm) : Prop :=
 ifB (decide (Edg.kind e=1)) (∀ i : Int, Sp.cmpL (Tm.mk (Tm.kind (Edg.sym e)) (Tm.text (Edg.sym e)) (Tm.kids (Edg.sym e)) :: ([] : List Tm)) (Tm.mk (Tm.kind t) (Tm.text t) (Tm.kids t) :: ([] : List Tm))=i→Sp.rreads e t=decide (i=0)) (ifB (decide (Edg.kind e=5)) (Sp.rreads e t=false) ((0≤Edg.kind e∧Edg.kind e < (↑5 : Int))∧Sp.rreads e t=(decide (Tm.kind t=nth 0 (0 :: 0 :: 1 :: 2 :: 3 :: ([] : List Int)) (Edg.kind e)) && (!(Sp.rmem (Edg.exc e) (Tm.mk (Tm.kind t) (Tm.text t) (Tm.kids t)))))))
end Go.AL
namespace Go.AL
set_option linter.unusedVariables false
set_option linter.unusedSimpArgs false
set_option maxRecDepth 10000
attribute [local irreducible] wpF wpFX wpM wpFM
theorem regular_has_1.main (t : Tm) (k : Int) (x : ByteArray) (ks : List Tm) : regular_has_1.t t k x ks := by
 rintro i rfl
 rw [Tm.eta]; rfl
theorem regular_has_1.ok (W : World) : CtrOK Go.Proofs.Tryz.prog W 115 regular_has_1.C := by
 refine memOK (d := regular_has_1.d) (Γ := lookC [(58, regular_compare.C)]) (lookC_ok (fun p hp => by
  simp only [List.mem_cons, List.not_mem_nil, or_false] at hp
  subst hp; exact regular_compare.ok W)) (Λ := fun c_ s_ => match c_, s_ with | t, (k, x, ks) => (fun _ => none)) (Λr := fun c_ s_ => match c_, s_ with | t, (k, x, ks) => (fun _ => none)) ?_
 intro c s hp
 obtain ⟨k, x, ks⟩ := s
 refine Eq.mpr ?_ (@regular_has_1.main c k x ks)
 kernel_rfl
theorem slices_IndexFunc_129__h.l0_ok (l : List Tm) (k : Int) (x : ByteArray) (ks : List Tm) : slices_IndexFunc_129__h.l0 l k x ks := by
 rintro l1 m r i k1 x1 ks1 ⟨e1, e2, h1, h2, h3, f1, f2, f3⟩
 subst l1 m k1 x1 ks1
 generalize hp : Sp.hasT k x ks = p
 refine ifD (fun h => ?_) fun h => ?_
 ·have hi : i.toNat < l.length := by omega
  have e := nth_drop (d := default) hi
  refine ⟨by omega, ?_⟩
  rintro b a1 a2 a3 hb
  simp only [Prod.mk.injEq] at hb
  obtain ⟨hb, g1, g2, g3⟩ := hb
  subst g1 g2 g3
  have hb' : p (nth default l i) = b := hb
  rw [e]
  refine ifB_of (fun h4 => ?_) fun h4 => ?_
  ·rw [List.any_cons, Sp.idxT, hb', h4]; simp
  ·refine ⟨inR64 (by omega), ⟨by trivial, by trivial, by omega, by omega, h3, rfl, rfl, rfl⟩, by omega, ?_⟩
   rw [List.any_cons, Sp.idxT, hb', h4, show (i + 1).toNat = i.toNat + 1 by omega]
   simp only [Bool.false_or, Bool.false_eq_true, if_false]
   by_cases hc : (List.drop (i.toNat + 1) l).any p = true
   ·rw [if_pos hc, if_pos hc]
    have h5 := Sp.idxT_any p (List.drop (i.toNat + 1) l)
    rw [hc] at h5
    simp only [decide_eq_true_eq] at h5
    rw [if_neg (by omega)]
    have e9 : i + 1 + Sp.idxT p (List.drop (i.toNat + 1) l) = i + (Sp.idxT p (List.drop (i.toNat + 1) l) + 1) := by omega
    rw [e9]
   ·rw [if_neg hc, if_neg hc]
 ·rw [List.drop_eq_nil_of_le (by omega), show i = l.length by omega]
  simp
theorem slices_IndexFunc_129__h.main (l : List Tm) (k : Int) (x : ByteArray) (ks : List Tm) : slices_IndexFunc_129__h.t l k x ks := by
 refine fun h => ⟨⟨rfl, rfl, by omega, by omega, h, rfl, rfl, rfl⟩, slices_IndexFunc_129__h.l0_ok l k x ks, fun r i a1 a2 a3 hq => ?_, fun r i a1 a2 a3 hq => ?_⟩
 ·generalize Sp.hasT k x ks = p at *
  have h5 := Sp.idxT_any p l
  have h6 := Sp.idxT_ge p l
  simp only [Int.toNat_zero, List.drop_zero] at hq
  split at hq
  ·cases hq
  ·rename_i h7
   simp only [LOut.brk.injEq, Prod.mk.injEq] at hq
   obtain ⟨_, _, g1, g2, g3⟩ := hq
   subst g1 g2 g3
   have h8 : l.any p = false := by simpa using h7
   rw [h8] at h5; simp only [decide_eq_false_iff_not] at h5
   rw [show Sp.idxT p l = -1 by omega]
 ·generalize Sp.hasT k x ks = p at *
  simp only [Int.toNat_zero, List.drop_zero] at hq
  split at hq
  ·simp only [LOut.ext.injEq, Prod.mk.injEq, true_and] at hq
   obtain ⟨g0, _, g1, g2, g3⟩ := hq
   subst g1 g2 g3
   rw [← g0, show (0 : Int) + Sp.idxT p l = Sp.idxT p l by omega]
  ·cases hq
theorem slices_IndexFunc_129__h.ok (W : World) : CtrOK Go.Proofs.Tryz.prog W 129 slices_IndexFunc_129__h.C := by
 refine memOK (d := slices_IndexFunc_129__h.d) (Γ := lookC [(115, regular_has_1.C)]) (lookC_ok (fun p hp => by
  simp only [List.mem_cons, List.not_mem_nil, or_false] at hp
  subst hp; exact regular_has_1.ok W)) (Λ := fun c_ s_ => match c_, s_ with | l, (k, x, ks) => (slices_IndexFunc_129__h.Λ l k x ks)) (Λr := fun c_ s_ => match c_, s_ with | l, (k, x, ks) => (fun _ => none)) ?_
 intro c s hp
 obtain ⟨k, x, ks⟩ := s
 refine Eq.mpr ?_ (@slices_IndexFunc_129__h.main c k x ks)
 kernel_rfl
theorem slices_ContainsFunc_114__h.main (l : List Tm) (k : Int) (x : ByteArray) (ks : List Tm) : slices_ContainsFunc_114__h.t l k x ks := by
 rintro i a1 a2 a3 hq
 simp only [Prod.mk.injEq] at hq
 obtain ⟨g0, g1, g2, g3⟩ := hq
 subst g0 g1 g2 g3
 rw [Sp.idxT_any]
theorem slices_ContainsFunc_114__h.ok (W : World) : CtrOK Go.Proofs.Tryz.prog W 114 slices_ContainsFunc_114__h.C := by
 refine memOK (d := slices_ContainsFunc_114__h.d) (Γ := lookC [(129, slices_IndexFunc_129__h.C)]) (lookC_ok (fun p hp => by
  simp only [List.mem_cons, List.not_mem_nil, or_false] at hp
  subst hp; exact slices_IndexFunc_129__h.ok W)) (Λ := fun c_ s_ => match c_, s_ with | l, (k, x, ks) => (fun _ => none)) (Λr := fun c_ s_ => match c_, s_ with | l, (k, x, ks) => (fun _ => none)) ?_
 intro c s hp
 obtain ⟨k, x, ks⟩ := s
 refine Eq.mpr ?_ (@slices_ContainsFunc_114__h.main c k x ks)
 kernel_rfl
theorem regular_has.main (l : List Tm) (t : Tm) : regular_has.t l t := by
 rintro b a1 a2 a3 hq
 simp only [Prod.mk.injEq] at hq
 rw [← hq.1]
 have : Sp.hasT t.kind t.text t.kids = fun x => decide (Sp.cmpL [x] [t] = 0) := funext fun x => by rw [Sp.hasT, Tm.eta]
 rw [this]; rfl
theorem regular_has.ok (W : World) : CtrOK Go.Proofs.Tryz.prog W 85 regular_has.C := by
 refine funOK (Γ := lookC [(114, slices_ContainsFunc_114__h.C)]) (lookC_ok (fun p hp => by
  simp only [List.mem_cons, List.not_mem_nil, or_false] at hp
  subst hp; exact slices_ContainsFunc_114__h.ok W)) (Λ := fun a_ => match a_ with | (l, t) => (fun _ => none)) (Λr := fun a_ => match a_ with | (l, t) => (fun _ => none)) ?_
 intro a ha
 obtain ⟨l, t⟩ := a
 refine Eq.mpr ?_ (@regular_has.main l t)
 kernel_rfl
theorem regular_Edge_reads.main (e : Edg) (t : Tm) (ha : 1 ≤ e.kind ∧ e.kind ≤ 5) : regular_Edge_reads.t e t := by
 refine ifD (fun h => ?_) fun h => ifD (fun h1 => ?_) fun h1 => ⟨by omega, ?_⟩
 ·rintro i rfl
  rw [Sp.rreads, if_pos h, Tm.eta, Tm.eta]
 ·rw [Sp.rreads, if_neg h]; simp [h1]
 ·rw [Sp.rreads, if_neg h, Sp.kinds_sort (by omega), Tm.eta]
  simp [h1]
theorem regular_Edge_reads.ok (W : World) : CtrOK Go.Proofs.Tryz.prog W 50 regular_Edge_reads.C := by
 refine funOK (Γ := lookC [(57, regular_kinds.C), (58, regular_compare.C), (85, regular_has.C)]) (lookC_ok (fun p hp => by
  simp only [List.mem_cons, List.not_mem_nil, or_false] at hp
  rcases hp with rfl | rfl | rfl
  ·exact regular_kinds.ok W
  ·exact regular_compare.ok W
  ·exact regular_has.ok W)) (Λ := fun a_ => match a_ with | (e, t) => (fun _ => none)) (Λr := fun a_ => match a_ with | (e, t) => (fun _ => none)) ?_
 intro a ha
 obtain ⟨e, t⟩ := a
 refine Eq.mpr ?_ (@regular_Edge_reads.main e t ha)
 kernel_rfl
end Go.AL
namespace Go.AL
set_option linter.unusedVariables false
def regular_Check_2.d : LD := ({ cs := [0], cts := [.nm 6], pts := [(1, .loc 0 0)], vs := [], os := [(0, .plain, [none, none, none, none])], vts := [.int .i64, .int .i64, .lst (.int .i64), .lst (.nm 6)], own := [false, false, false, false], ro := [0, 1], nx := 1 } : LD)
def regular_Check_2.C : Ctr := memCtr regular_Check_2.d [.bool] (some (fun (c_ : ElT [.nm 6]) (s_ : ElT [.int .i64, .int .i64, .lst (.int .i64), .lst (.nm 6)]) => match c_, s_ with | e, (n, st, fin, ed) => Sp.okL [e.sym] ∧ ∀ t ∈ e.exc, Sp.okL [t])) (fun (c_ : ElT [.nm 6]) (s_ : ElT [.int .i64, .int .i64, .lst (.int .i64), .lst (.nm 6)]) => match c_, s_ with | e, (n, st, fin, ed) => ((!Sp.rright ⟨n, st, fin, ed⟩ e, (n, st, fin, ed))))
def slices_IndexFunc__c2.d : LD := ({ cs := [0], cts := [.lst (.nm 6)], pts := [(1, .fn 27 [] [.loc 0 0])], vs := [], os := [(0, .plain, [none, none, none, none])], vts := [.int .i64, .int .i64, .lst (.int .i64), .lst (.nm 6)], own := [false, false, false, false], ro := [0, 1], nx := 1 } : LD)
def slices_IndexFunc__c2.L0 : LD := { cs := [0, 7], cts := [.lst (.nm 6), .int .i64], pts := [(1, (.fn 27 [] [(.loc 0 0)]))], vs := [4, 8], os := [(0, .plain, [none, none, none, none])], vts := [.int .i64, .int .i64, .int .i64, .int .i64, .lst (.int .i64), .lst (.nm 6)], own := [false, false, false, false, false, false], ro := [0, 1, 6, 7], nx := 100 }
def slices_IndexFunc__c2.Λ (l : (List Edg)) (n : Int) (st : Int) (fin : (List Int)) (ed : (List Edg)) : Nat → Option (Loop (ElT [.bool])) := fun id =>
 if id = 0 then some (mkLoop slices_IndexFunc__c2.L0
  (fun (c_ : (List Edg) × Int) (s_ : Int × Int × Int × Int × (List Int) × (List Edg)) => match c_, s_ with | (c_l, m), (r, i, n1, st1, fin1, ed1) => c_l = l ∧ m = l.length ∧ 0 ≤ i ∧ i ≤ l.length ∧ l.length < 9223372036854775808 ∧ n1 = n ∧ st1 = st ∧ fin1 = fin ∧ ed1 = ed)
  (fun (c_ : (List Edg) × Int) (s_ : Int × Int × Int × Int × (List Int) × (List Edg)) => match c_, s_ with | (c_l, m), (r, i, n1, st1, fin1, ed1) => (l.length - i : Int).toNat)
  (fun (c_ : (List Edg) × Int) (s_ : Int × Int × Int × Int × (List Int) × (List Edg)) => match c_, s_ with | (c_l, m), (r, i, n1, st1, fin1, ed1) => if (l.drop i.toNat).any (fun e => !Sp.rright ⟨n, st, fin, ed⟩ e) = true then .ext 9999 (i + Sp.idxE (fun e => !Sp.rright ⟨n, st, fin, ed⟩ e) (l.drop i.toNat), i + Sp.idxE (fun e => !Sp.rright ⟨n, st, fin, ed⟩ e) (l.drop i.toNat), n1, st1, fin1, ed1) else .brk (r, (l.length : Int), n1, st1, fin1, ed1)) [9999] false) else
 none
def slices_IndexFunc__c2.C : Ctr := memCtr slices_IndexFunc__c2.d [.int .i64] (some (fun (c_ : ElT [.lst (.nm 6)]) (s_ : ElT [.int .i64, .int .i64, .lst (.int .i64), .lst (.nm 6)]) => match c_, s_ with | l, (n, st, fin, ed) => ∀ e ∈ l, Sp.okL [e.sym] ∧ ∀ t ∈ e.exc, Sp.okL [t])) (fun (c_ : ElT [.lst (.nm 6)]) (s_ : ElT [.int .i64, .int .i64, .lst (.int .i64), .lst (.nm 6)]) => match c_, s_ with | l, (n, st, fin, ed) => ((Sp.idxE (fun e => !Sp.rright ⟨n, st, fin, ed⟩ e) l, (n, st, fin, ed))))
def slices_ContainsFunc__c2.d : LD := ({ cs := [0], cts := [.lst (.nm 6)], pts := [(1, .fn 27 [] [.loc 0 0])], vs := [], os := [(0, .plain, [none, none, none, none])], vts := [.int .i64, .int .i64, .lst (.int .i64), .lst (.nm 6)], own := [false, false, false, false], ro := [0, 1], nx := 1 } : LD)
def slices_ContainsFunc__c2.C : Ctr := memCtr slices_ContainsFunc__c2.d [.bool] (some (fun (c_ : ElT [.lst (.nm 6)]) (s_ : ElT [.int .i64, .int .i64, .lst (.int .i64), .lst (.nm 6)]) => match c_, s_ with | l, (n, st, fin, ed) => ∀ e ∈ l, Sp.okL [e.sym] ∧ ∀ t ∈ e.exc, Sp.okL [t])) (fun (c_ : ElT [.lst (.nm 6)]) (s_ : ElT [.int .i64, .int .i64, .lst (.int .i64), .lst (.nm 6)]) => match c_, s_ with | l, (n, st, fin, ed) => ((l.any (fun e => !Sp.rright ⟨n, st, fin, ed⟩ e), (n, st, fin, ed))))
end Go.AL
namespace Go.AL
set_option linter.unusedVariables false
set_option maxRecDepth 10000
def regular_Check_2.t (e : Edg) (n : Int) (st : Int) (fin : (List Int)) (ed : (List Edg)) : Prop :=
 (Sp.okL (Tm.mk (Tm.kind (Edg.sym e)) (Tm.text (Edg.sym e)) (Tm.kids (Edg.sym e)) :: ([] : List Tm))∧∀ x : Tm, Membership.mem (Edg.exc e) x→Sp.okL (x :: ([] : List Tm)))∧∀ b : Bool, Sp.rright (Aut.mk n st fin ed) (Edg.mk (Edg.src e) (Edg.dst e) (Edg.kind e) (Tm.mk (Tm.kind (Edg.sym e)) (Tm.text (Edg.sym e)) (Tm.kids (Edg.sym e))) (Edg.exc e) (Edg.inner e))=b→(!(Sp.rright (Aut.mk n st fin ed) e), n, st, fin, ed)=(!b, n, st, fin, ed)
def slices_IndexFunc__c2.l0 (l : (List Edg)) (n : Int) (st : Int) (fin : (List Int)) (ed : (List Edg)) : Prop :=
 ∀ l1 : List Edg, ∀ i i1 i2 i3 i4 : Int, ∀ l2 : List Int, ∀ l3 : List Edg, l1=l∧i=(↑(List.length l) : Int)∧0≤i2∧i2≤(↑(List.length l) : Int)∧List.length l < 9223372036854775808∧i3=n∧i4=st∧l2=fin∧l3=ed→ifB (decide (i2 < i)) ((0≤i2∧i2 < (↑(List.length l1) : Int))∧(Sp.okL (Edg.sym (nth Inhabited.default l1 i2) :: ([] : List Tm))∧∀ x : Tm, Membership.mem (Edg.exc (nth Inhabited.default l1 i2)) x→Sp.okL (x :: ([] : List Tm)))∧∀ b : Bool, ∀ i5 i6 : Int, ∀ l4 : List Int, ∀ l5 : List Edg, (!(Sp.rright (Aut.mk i3 i4 l2 l3) (nth Inhabited.default l1 i2)), i3, i4, l2, l3)=(b, i5, i6, l4, l5)→ifB b ((ite (List.any (List.drop (Int.toNat i2) l) (fun x : Edg => !(Sp.rright (Aut.mk n st fin ed) x))=true) (LOut.ext 9999 (i2 + (Sp.idxE (fun x : Edg => !(Sp.rright (Aut.mk n st fin ed) x)) (List.drop (Int.toNat i2) l)), i2 + (Sp.idxE (fun x : Edg => !(Sp.rright (Aut.mk n st fin ed) x)) (List.drop (Int.toNat i2) l)), i3, i4, l2, l3)) (LOut.brk (i1, (↑(List.length l) : Int), i3, i4, l2, l3)) : LOut _ Bool)=LOut.ext 9999 (i2, i2, i5, i6, l4, l5)) (inR .i64 (i2 + 1)∧(l1=l∧i=(↑(List.length l) : Int)∧0≤i2 + 1∧i2 + 1≤(↑(List.length l) : Int)∧List.length l < 9223372036854775808∧i5=n∧i6=st∧l4=fin∧l5=ed)∧Int.toNat ((↑(List.length l) : Int) - (i2 + 1)) < Int.toNat ((↑(List.length l) : Int) - i2)∧(ite (List.any (List.drop (Int.toNat (i2 + 1)) l) (fun x : Edg => !(Sp.rright (Aut.mk n st fin ed) x))=true) (LOut.ext 9999 (i2 + 1 + (Sp.idxE (fun x : Edg => !(Sp.rright (Aut.mk n st fin ed) x)) (List.drop (Int.toNat (i2 + 1)) l)), i2 + 1 + (Sp.idxE (fun x : Edg => !(Sp.rright (Aut.mk n st fin ed) x)) (List.drop (Int.toNat (i2 + 1)) l)), i5, i6, l4, l5)) (LOut.brk (i1, (↑(List.length l) : Int), i5, i6, l4, l5)) : LOut _ Bool)=ite (List.any (List.drop (Int.toNat i2) l) (fun x : Edg => !(Sp.rright (Aut.mk n st fin ed) x))=true) (LOut.ext 9999 (i2 + (Sp.idxE (fun x : Edg => !(Sp.rright (Aut.mk n st fin ed) x)) (List.drop (Int.toNat i2) l)), i2 + (Sp.idxE (fun x : Edg => !(Sp.rright (Aut.mk n st fin ed) x)) (List.drop (Int.toNat i2) l)), i3, i4, l2, l3)) (LOut.brk (i1, (↑(List.length l) : Int), i3, i4, l2, l3)))) ((ite (List.any (List.drop (Int.toNat i2) l) (fun x : Edg => !(Sp.rright (Aut.mk n st fin ed) x))=true) (LOut.ext 9999 (i2 + (Sp.idxE (fun x : Edg => !(Sp.rright (Aut.mk n st fin ed) x)) (List.drop (Int.toNat i2) l)), i2 + (Sp.idxE (fun x : Edg => !(Sp.rright (Aut.mk n st fin ed) x)) (List.drop (Int.toNat i2) l)), i3, i4, l2, l3)) (LOut.brk (i1, (↑(List.length l) : Int), i3, i4, l2, l3)) : LOut _ Bool)=LOut.brk (i1, i2, i3, i4, l2, l3))
def slices_IndexFunc__c2.t (l : (List Edg)) (n : Int) (st : Int) (fin : (List Int)) (ed : (List Edg)) : Prop :=
 List.length l < 9223372036854775808→(l=l∧(↑(List.length l) : Int)=(↑(List.length l) : Int)∧(0 : Int)≤0∧0≤(↑(List.length l) : Int)∧List.length l < 9223372036854775808∧n=n∧st=st∧fin=fin∧ed=ed)∧slices_IndexFunc__c2.l0 l n st fin ed∧(∀ i i1 i2 i3 : Int, ∀ l1 : List Int, ∀ l2 : List Edg, (ite (List.any (List.drop (Int.toNat 0) l) (fun x : Edg => !(Sp.rright (Aut.mk n st fin ed) x))=true) (LOut.ext 9999 (0 + (Sp.idxE (fun x : Edg => !(Sp.rright (Aut.mk n st fin ed) x)) (List.drop (Int.toNat 0) l)), 0 + (Sp.idxE (fun x : Edg => !(Sp.rright (Aut.mk n st fin ed) x)) (List.drop (Int.toNat 0) l)), n, st, fin, ed)) (LOut.brk (0, (↑(List.length l) : Int), n, st, fin, ed)) : LOut (Int × Int × Int × Int × List Int × List Edg) Bool)=LOut.brk (i, i1, i2, i3, l1, l2)→(Sp.idxE (fun x : Edg => !(Sp.rright (Aut.mk n st fin ed) x)) l, n, st, fin, ed)=(-1, i2, i3, l1, l2))∧∀ i i1 i2 i3 : Int, ∀ l1 : List Int, ∀ l2 : List Edg, (ite (List.any (List.drop (Int.toNat 0) l) (fun x : Edg => !(Sp.rright (Aut.mk n st fin ed) x))=true) (LOut.ext 9999 (0 + (Sp.idxE (fun x : Edg => !(Sp.rright (Aut.mk n st fin ed) x)) (List.drop (Int.toNat 0) l)), 0 + (Sp.idxE (fun x : Edg => !(Sp.rright (Aut.mk n st fin ed) x)) (List.drop (Int.toNat 0) l)), n, st, fin, ed)) (LOut.brk (0, (↑(List.length l) : Int), n, st, fin, ed)) : LOut (Int × Int × Int × Int × List Int × List Edg) Bool)=LOut.ext 9999 (i, i1, i2, i3, l1, l2)→(Sp.idxE (fun x : Edg => !(Sp.rright (Aut.mk n st fin ed) x)) l, n, st, fin, ed)=(i, i2, i3, l1, l2)
def slices_ContainsFunc__c2.t (l : (List Edg)) (n : Int) (st : Int) (fin : (List Int)) (ed : (List Edg)) : Prop :=
 (∀ x : Edg, Membership.mem l x→Sp.okL (Edg.sym x :: ([] : List Tm))∧∀ x1 : Tm, Membership.mem (Edg.exc x) x1→Sp.okL (x1 :: ([] : List Tm)))∧∀ i i1 i2 : Int, ∀ l1 : List Int, ∀ l2 : List Edg, (Sp.idxE (fun x : Edg => !(Sp.rright (Aut.mk n st fin ed) x)) l, n, st, fin, ed)=(i, i1, i2, l1, l2)→(List.any l (fun x : Edg => !(Sp.rright (Aut.mk n st fin ed) x)), n, st, fin, ed)=(decide (0≤i), i1, i2, l1, l2)
end Go.AL
namespace Go.AL
set_option linter.unusedVariables false
set_option linter.unusedSimpArgs false
set_option maxRecDepth 10000
attribute [local irreducible] wpF wpFX wpM wpFM
theorem regular_Check_2.main (e : Edg) (n st : Int) (fin : List Int) (ed : List Edg) (ha : Sp.okL [e.sym] ∧ ∀ t ∈ e.exc, Sp.okL [t]) : regular_Check_2.t e n st fin ed := by
 unfold regular_Check_2.t
 rw [Tm.eta]
 refine ⟨ha, fun b hb => ?_⟩
 have hb' : Sp.rright (Aut.mk n st fin ed) e = b := hb
 rw [hb']
theorem regular_Check_2.ok (W : World) : CtrOK Go.Proofs.Tryz.prog W 27 regular_Check_2.C := by
 refine memOK (d := regular_Check_2.d) (Γ := lookC [(28, regular_Automaton_right.C)]) (lookC_ok (fun p hp => by
  simp only [List.mem_cons, List.not_mem_nil, or_false] at hp
  subst hp; exact regular_Automaton_right.ok W)) (Λ := fun c_ s_ => match c_, s_ with | e, (n, st, fin, ed) => (fun _ => none)) (Λr := fun c_ s_ => match c_, s_ with | e, (n, st, fin, ed) => (fun _ => none)) ?_
 intro c s hp
 obtain ⟨n, st, fin, ed⟩ := s
 refine Eq.mpr ?_ (@regular_Check_2.main c n st fin ed hp)
 kernel_rfl
theorem slices_IndexFunc__c2.l0_ok (l : List Edg) (n st : Int) (fin : List Int) (ed : List Edg) (ha : ∀ e ∈ l, Sp.okL [e.sym] ∧ ∀ t ∈ e.exc, Sp.okL [t]) : slices_IndexFunc__c2.l0 l n st fin ed := by
 rintro l1 m r i n1 st1 fin1 ed1 ⟨e1, e2, h1, h2, h3, f1, f2, f3, f4⟩
 subst l1 m n1 st1 fin1 ed1
 generalize hp : (fun x : Edg => !Sp.rright (Aut.mk n st fin ed) x) = p
 refine ifD (fun h => ?_) fun h => ?_
 ·have hi : i.toNat < l.length := by omega
  have e := nth_drop (d := default) hi
  refine ⟨by omega, ha _ (nth_mem hi), ?_⟩
  rintro b a1 a2 a3 a4 hb
  simp only [Prod.mk.injEq] at hb
  obtain ⟨hb, g1, g2, g3, g4⟩ := hb
  subst g1 g2 g3 g4
  have hb' : p (nth default l i) = b := by rw [← hp]; exact hb
  rw [e]
  refine ifB_of (fun h4 => ?_) fun h4 => ?_
  ·rw [List.any_cons, Sp.idxE, hb', h4]; simp
  ·refine ⟨inR64 (by omega), ⟨by trivial, by trivial, by omega, by omega, h3, rfl, rfl, rfl, rfl⟩, by omega, ?_⟩
   rw [List.any_cons, Sp.idxE, hb', h4, show (i + 1).toNat = i.toNat + 1 by omega]
   simp only [Bool.false_or, Bool.false_eq_true, if_false]
   by_cases hc : (List.drop (i.toNat + 1) l).any p = true
   ·rw [if_pos hc, if_pos hc]
    have h5 := Sp.idxE_any p (List.drop (i.toNat + 1) l)
    rw [hc] at h5
    simp only [decide_eq_true_eq] at h5
    rw [if_neg (by omega)]
    have e9 : i + 1 + Sp.idxE p (List.drop (i.toNat + 1) l) = i + (Sp.idxE p (List.drop (i.toNat + 1) l) + 1) := by omega
    rw [e9]
   ·rw [if_neg hc, if_neg hc]
 ·rw [List.drop_eq_nil_of_le (by omega), show i = l.length by omega]
  simp
theorem slices_IndexFunc__c2.main (l : List Edg) (n st : Int) (fin : List Int) (ed : List Edg) (ha : ∀ e ∈ l, Sp.okL [e.sym] ∧ ∀ t ∈ e.exc, Sp.okL [t]) : slices_IndexFunc__c2.t l n st fin ed := by
 refine fun h => ⟨⟨rfl, rfl, by omega, by omega, h, rfl, rfl, rfl, rfl⟩, slices_IndexFunc__c2.l0_ok l n st fin ed ha, fun r i a1 a2 a3 a4 hq => ?_, fun r i a1 a2 a3 a4 hq => ?_⟩
 ·generalize (fun x : Edg => !Sp.rright (Aut.mk n st fin ed) x) = p at *
  have h5 := Sp.idxE_any p l
  have h6 := Sp.idxE_ge p l
  simp only [Int.toNat_zero, List.drop_zero] at hq
  split at hq
  ·cases hq
  ·rename_i h7
   simp only [LOut.brk.injEq, Prod.mk.injEq] at hq
   obtain ⟨_, _, g1, g2, g3, g4⟩ := hq
   subst g1 g2 g3 g4
   have h8 : l.any p = false := by simpa using h7
   rw [h8] at h5; simp only [decide_eq_false_iff_not] at h5
   rw [show Sp.idxE p l = -1 by omega]
 ·generalize (fun x : Edg => !Sp.rright (Aut.mk n st fin ed) x) = p at *
  simp only [Int.toNat_zero, List.drop_zero] at hq
  split at hq
  ·simp only [LOut.ext.injEq, Prod.mk.injEq, true_and] at hq
   obtain ⟨g0, _, g1, g2, g3, g4⟩ := hq
   subst g1 g2 g3 g4
   rw [← g0, show (0 : Int) + Sp.idxE p l = Sp.idxE p l by omega]
  ·cases hq
theorem slices_IndexFunc__c2.ok (W : World) : CtrOK Go.Proofs.Tryz.prog W 54 slices_IndexFunc__c2.C := by
 refine memOK (d := slices_IndexFunc__c2.d) (Γ := lookC [(27, regular_Check_2.C)]) (lookC_ok (fun p hp => by
  simp only [List.mem_cons, List.not_mem_nil, or_false] at hp
  subst hp; exact regular_Check_2.ok W)) (Λ := fun c_ s_ => match c_, s_ with | l, (n, st, fin, ed) => (slices_IndexFunc__c2.Λ l n st fin ed)) (Λr := fun c_ s_ => match c_, s_ with | l, (n, st, fin, ed) => (fun _ => none)) ?_
 intro c s hp
 obtain ⟨n, st, fin, ed⟩ := s
 refine Eq.mpr ?_ (@slices_IndexFunc__c2.main c n st fin ed hp)
 kernel_rfl
theorem slices_ContainsFunc__c2.main (l : List Edg) (n st : Int) (fin : List Int) (ed : List Edg) (ha : ∀ e ∈ l, Sp.okL [e.sym] ∧ ∀ t ∈ e.exc, Sp.okL [t]) : slices_ContainsFunc__c2.t l n st fin ed := by
 refine ⟨ha, fun i a1 a2 a3 a4 hq => ?_⟩
 simp only [Prod.mk.injEq] at hq
 obtain ⟨g0, g1, g2, g3, g4⟩ := hq
 subst g0 g1 g2 g3 g4
 rw [Sp.idxE_any]
theorem slices_ContainsFunc__c2.ok (W : World) : CtrOK Go.Proofs.Tryz.prog W 24 slices_ContainsFunc__c2.C := by
 refine memOK (d := slices_ContainsFunc__c2.d) (Γ := lookC [(54, slices_IndexFunc__c2.C)]) (lookC_ok (fun p hp => by
  simp only [List.mem_cons, List.not_mem_nil, or_false] at hp
  subst hp; exact slices_IndexFunc__c2.ok W)) (Λ := fun c_ s_ => match c_, s_ with | l, (n, st, fin, ed) => (fun _ => none)) (Λr := fun c_ s_ => match c_, s_ with | l, (n, st, fin, ed) => (fun _ => none)) ?_
 intro c s hp
 obtain ⟨n, st, fin, ed⟩ := s
 refine Eq.mpr ?_ (@slices_ContainsFunc__c2.main c n st fin ed hp)
 kernel_rfl
end Go.AL
namespace Go.AL
set_option linter.unusedVariables false
def isFnA (g : Nat) : VV → Bool
 | .fn f [] [] => f == g
 | _ => false
def altCtr (g k : Nat) (c1 c2 : Ctr) : Ctr where
 pv vs := match (vs[k]?).any (isFnA g) with
  | true => c1.pv vs
  | false => c2.pv vs
 run vs st K := match (vs[k]?).any (isFnA g) with
  | true => c1.run vs st K
  | false => c2.run vs st K
theorem altCtr_ok {P : Program} {W : World} {f g k : Nat} {c1 c2 : Ctr} (h1 : CtrOK P W f c1) (h2 : CtrOK P W f c2) : CtrOK P W f (altCtr g k c1 c2) := by
 constructor
 ·intro vs pv h
  simp only [altCtr] at h
  split at h
  ·exact h1.pv vs pv h
  ·exact h2.pv vs pv h
 ·intro vs st K h
  simp only [altCtr] at h
  split at h
  ·exact h1.run vs st K h
  ·exact h2.run vs st K h
def slices_ContainsFunc__alt.C : Ctr := altCtr 25 1 slices_ContainsFunc__c1.C slices_ContainsFunc__c2.C
def regular_Check.L0 : LD := { cs := [36, 37], cts := [.lst (.int .i64), .int .i64], pts := [(1, (.loc 0 0))], vs := [38], os := [(0, .plain, [none, none, none, none])], vts := [.int .i64, .int .i64, .int .i64, .lst (.int .i64), .lst (.nm 6)], own := [false, false, false, false, false], ro := [0, 1, 5, 6, 7, 8, 9, 10, 11, 12, 13, 14, 15, 16, 17, 18, 19, 20, 21, 22, 23, 24, 25, 26, 27, 28, 29, 30, 31, 32, 33, 34, 35, 36, 37], nx := 100 }
def regular_Check.Λ (a : Aut) : Nat → Option (Loop (ElT [.int .i64])) := fun id =>
 if id = 0 then some (mkLoop regular_Check.L0
  (fun (c_ : (List Int) × Int) (s_ : Int × Int × Int × (List Int) × (List Edg)) => match c_, s_ with | (l, m), (i, n, st, fin, ed) => l = a.final ∧ m = l.length ∧ l.length < 9223372036854775808 ∧ 0 ≤ i ∧ i ≤ l.length ∧ n = a.states ∧ st = a.start ∧ fin = a.final ∧ ed = a.edges)
  (fun (c_ : (List Int) × Int) (s_ : Int × Int × Int × (List Int) × (List Edg)) => match c_, s_ with | (l, m), (i, n, st, fin, ed) => (l.length - i : Int).toNat)
  (fun (c_ : (List Int) × Int) (s_ : Int × Int × Int × (List Int) × (List Edg)) => match c_, s_ with | (l, m), (i, n, st, fin, ed) => if Sp.rfin a (Sp.prev 0 l i) (l.drop i.toNat) then .brk (l.length, n, st, fin, ed) else .ret 250) [] true) else
 none
def regular_Check.C : Ctr := pureCtr [.nm 7] [.int .i64] (some (fun (a : Aut) => Sp.okA a)) (fun (a : Aut) => (Sp.rcheck a))
end Go.AL
namespace Go.AL
set_option linter.unusedVariables false
set_option maxRecDepth 10000
def regular_Check.l0 (a : Aut) : Prop :=
 ∀ l : List Int, ∀ i i1 i2 i3 : Int, ∀ l1 : List Int, ∀ l2 : List Edg, l=Aut.final a∧i=(↑(List.length l) : Int)∧List.length l < 9223372036854775808∧0≤i1∧i1≤(↑(List.length l) : Int)∧i2=Aut.states a∧i3=Aut.start a∧l1=Aut.final a∧l2=Aut.edges a→ifB (decide (i1 < i)) ((0≤i1∧i1 < (↑(List.length l) : Int))∧∀ b : Bool, Sp.rstate (Aut.mk i2 i3 l1 l2) (nth 0 l i1)=b→(decide (0 < i1)=true∧(!b)=false→inR .i64 (i1 - 1))∧(decide (0 < i1)=true∧(!b)=false→0≤i1 - 1∧i1 - 1 < (↑(List.length l1) : Int))∧ifB ((!b) || decide (0 < i1) && decide (nth 0 l i1≤nth 0 l1 (i1 - 1))) ((ite (Sp.rfin a (Sp.prev 0 l i1) (List.drop (Int.toNat i1) l)=true) (LOut.brk ((↑(List.length l) : Int), i2, i3, l1, l2)) (LOut.ret 250) : LOut _ Int)=LOut.ret 250) (inR .i64 (i1 + 1)∧(l=Aut.final a∧i=(↑(List.length l) : Int)∧List.length l < 9223372036854775808∧0≤i1 + 1∧i1 + 1≤(↑(List.length l) : Int)∧i2=Aut.states a∧i3=Aut.start a∧l1=Aut.final a∧l2=Aut.edges a)∧Int.toNat ((↑(List.length l) : Int) - (i1 + 1)) < Int.toNat ((↑(List.length l) : Int) - i1)∧(ite (Sp.rfin a (Sp.prev 0 l (i1 + 1)) (List.drop (Int.toNat (i1 + 1)) l)=true) (LOut.brk ((↑(List.length l) : Int), i2, i3, l1, l2)) (LOut.ret 250) : LOut _ Int)=ite (Sp.rfin a (Sp.prev 0 l i1) (List.drop (Int.toNat i1) l)=true) (LOut.brk ((↑(List.length l) : Int), i2, i3, l1, l2)) (LOut.ret 250))) ((ite (Sp.rfin a (Sp.prev 0 l i1) (List.drop (Int.toNat i1) l)=true) (LOut.brk ((↑(List.length l) : Int), i2, i3, l1, l2)) (LOut.ret 250) : LOut _ Int)=LOut.brk (i1, i2, i3, l1, l2))
def regular_Check.t (a : Aut) : Prop :=
 ifB (decide (400 < Aut.states a) || decide (400 < (↑(List.length (Aut.final a)) : Int)) || decide (4000 < (↑(List.length (Aut.edges a)) : Int)) || List.any (Aut.edges a) Sp.longE) (Sp.rcheck a=5) (ifB (decide (Aut.states a < 1) || (!(Sp.rstate (Aut.mk (Aut.states a) (Aut.start a) (Aut.final a) (Aut.edges a)) (Aut.start a)))) (Sp.rcheck a=250) (List.length (Aut.final a) < 9223372036854775808→(Aut.final a=Aut.final a∧(↑(List.length (Aut.final a)) : Int)=(↑(List.length (Aut.final a)) : Int)∧List.length (Aut.final a) < 9223372036854775808∧(0 : Int)≤0∧0≤(↑(List.length (Aut.final a)) : Int)∧Aut.states a=Aut.states a∧Aut.start a=Aut.start a∧Aut.final a=Aut.final a∧Aut.edges a=Aut.edges a)∧regular_Check.l0 a∧(∀ i i1 i2 : Int, ∀ l : List Int, ∀ l1 : List Edg, (ite (Sp.rfin a (Sp.prev 0 (Aut.final a) 0) (List.drop (Int.toNat 0) (Aut.final a))=true) (LOut.brk ((↑(List.length (Aut.final a)) : Int), Aut.states a, Aut.start a, Aut.final a, Aut.edges a)) (LOut.ret 250) : LOut _ Int)=LOut.brk (i, i1, i2, l, l1)→(∀ x : Edg, Membership.mem l1 x→Sp.okL (Edg.sym x :: ([] : List Tm))∧∀ x1 : Tm, Membership.mem (Edg.exc x) x1→Sp.okL (x1 :: ([] : List Tm)))∧∀ b : Bool, ∀ i3 i4 : Int, ∀ l2 : List Int, ∀ l3 : List Edg, (List.any l1 (fun x : Edg => !(Sp.rright (Aut.mk i1 i2 l l1) x)), i1, i2, l, l1)=(b, i3, i4, l2, l3)→ifB b (Sp.rcheck a=250) (Sp.rcheck a=0))∧∀ i : Int, (ite (Sp.rfin a (Sp.prev 0 (Aut.final a) 0) (List.drop (Int.toNat 0) (Aut.final a))=true) (LOut.brk ((↑(List.length (Aut.final a)) : Int), Aut.states a, Aut.start a, Aut.final a, Aut.edges a)) (LOut.ret 250) : LOut _ Int)=LOut.ret i→Sp.rcheck a=i))
end Go.AL
namespace Go.AL
set_option linter.unusedVariables false
set_option linter.unusedSimpArgs false
set_option maxRecDepth 10000
attribute [local irreducible] wpF wpFX wpM wpFM
theorem slices_ContainsFunc__alt.ok (W : World) : CtrOK Go.Proofs.Tryz.prog W 24 slices_ContainsFunc__alt.C := altCtr_ok (slices_ContainsFunc__c1.ok W) (slices_ContainsFunc__c2.ok W)
theorem regular_Check.l0_ok (a : Aut) : regular_Check.l0 a := by
 rintro l m i n st fin ed ⟨e1, e2, h3, h1, h2, f1, f2, f3, f4⟩
 subst l m n st fin ed
 refine ifD (fun h => ?_) fun h => ?_
 ·have hi : i.toNat < a.final.length := by omega
  rw [show Aut.mk a.states a.start a.final a.edges = a from rfl, Sp.rfin_step _ _ _ h1 hi]
  refine ⟨by omega, ?_⟩
  rintro b hb
  refine ⟨fun _ => inR64 (by omega), fun q => ?_, ifB_of (fun hb2 => ?_) fun hb2 => ⟨inR64 (by omega), ⟨rfl, rfl, h3, by omega, by omega, rfl, rfl, rfl, rfl⟩, by omega, ?_⟩⟩
  ·have := q.1; simp at this; omega
  ·rw [if_neg]
   simp only [Bool.and_eq_true, Bool.or_eq_true, Bool.not_eq_true', Bool.or_eq_false_iff, Bool.and_eq_false_iff, Bool.not_eq_false', decide_eq_true_eq, decide_eq_false_iff_not, mk_empty] at hb2
   rcases hb2 with hb2 | hb2
   ·rw [hb, hb2]; simp
   ·have h8 : ¬ i = 0 := by omega
    have h9 : ¬ nth 0 a.final (i - 1) < nth 0 a.final i := by omega
    simp [h8, h9]
  ·simp only [Bool.and_eq_true, Bool.or_eq_true, Bool.not_eq_true', Bool.or_eq_false_iff, Bool.and_eq_false_iff, Bool.not_eq_false', decide_eq_true_eq, decide_eq_false_iff_not, mk_empty] at hb2
   have h7 : (decide (i = 0) || decide (nth 0 a.final (i - 1) < nth 0 a.final i)) = true := by
    simp only [Bool.and_eq_true, Bool.or_eq_true, Bool.not_eq_true', Bool.or_eq_false_iff, Bool.and_eq_false_iff, Bool.not_eq_false', decide_eq_true_eq, decide_eq_false_iff_not, mk_empty]
    rcases hb2.2 with h8 | h8
    ·left; omega
    ·right; omega
   rw [h7, hb, hb2.1]
   rfl
 ·rw [List.drop_eq_nil_of_le (by omega), show i = a.final.length by omega]
  rfl
theorem regular_Check.main (a : Aut) (ha : Sp.okA a) : regular_Check.t a := by
 refine ifB_of (fun h => ?_) fun h => ?_
 ·simp only [Bool.and_eq_true, Bool.or_eq_true, Bool.not_eq_true', Bool.or_eq_false_iff, Bool.and_eq_false_iff, Bool.not_eq_false', decide_eq_true_eq, decide_eq_false_iff_not, mk_empty] at h
  rw [Sp.rcheck]
  split
  ·rfl
  ·rename_i h1
   rw [if_pos]
   rcases h with h | h
   ·exact absurd (by omega) h1
   ·simpa [Sp.longE] using h
 ·simp only [Bool.and_eq_true, Bool.or_eq_true, Bool.not_eq_true', Bool.or_eq_false_iff, Bool.and_eq_false_iff, Bool.not_eq_false', decide_eq_true_eq, decide_eq_false_iff_not, mk_empty] at h
  have hA : Sp.rcheck a = if a.states < 1 ∨ Sp.rstate a a.start = false then 250 else if Sp.rfin a none a.final then (if a.edges.all (Sp.rright a) then 0 else 250) else 250 := by
   have h6 : a.edges.any (fun e => decide (100 < (e.exc.length : Int))) = false := h.2
   rw [Sp.rcheck, if_neg (by omega), if_neg (by rw [h6]; simp)]
  refine ifB_of (fun h8 => ?_) fun h8 hl => ⟨⟨rfl, rfl, hl, by omega, by omega, rfl, rfl, rfl, rfl⟩, regular_Check.l0_ok a, fun i n st fin ed hq2 => ?_, fun r hq2 => ?_⟩
  ·simp only [Bool.and_eq_true, Bool.or_eq_true, Bool.not_eq_true', Bool.or_eq_false_iff, Bool.and_eq_false_iff, Bool.not_eq_false', decide_eq_true_eq, decide_eq_false_iff_not, mk_empty] at h8
   rw [hA, if_pos h8]
  ·simp only [Bool.and_eq_true, Bool.or_eq_true, Bool.not_eq_true', Bool.or_eq_false_iff, Bool.and_eq_false_iff, Bool.not_eq_false', decide_eq_true_eq, decide_eq_false_iff_not, mk_empty] at h8
   have hB : ¬ (a.states < 1 ∨ Sp.rstate a a.start = false) := by
    rintro (h9 | h9)
    ·omega
    ·have h10 := h8.2; rw [show Aut.mk a.states a.start a.final a.edges = a from rfl, h9] at h10; cases h10
   rw [if_neg hB] at hA
   obtain ⟨h10, h11⟩ := ite_brk hq2
   simp only [Prod.mk.injEq] at h11
   obtain ⟨_, e1, e2, e3, e4⟩ := h11
   subst e1 e2 e3 e4
   have h10' : Sp.rfin a none a.final = true := by simpa [Sp.prev] using h10
   rw [if_pos h10'] at hA
   refine ⟨ha, fun b a1 a2 a3 a4 hb => ?_⟩
   simp only [Prod.mk.injEq] at hb
   rw [← hb.1, hA, show Aut.mk a.states a.start a.final a.edges = a from rfl]
   refine ifB_of (fun h5 => ?_) fun h5 => ?_
   ·rw [if_neg]
    intro h6
    simp only [List.any_eq_true, List.all_eq_true] at h5 h6
    obtain ⟨e, h7, h9⟩ := h5
    rw [h6 e h7] at h9; cases h9
   ·rw [if_pos]
    simp only [List.any_eq_false, List.all_eq_true] at h5 ⊢
    intro e he
    have := h5 e he
    simpa using this
  ·simp only [Bool.and_eq_true, Bool.or_eq_true, Bool.not_eq_true', Bool.or_eq_false_iff, Bool.and_eq_false_iff, Bool.not_eq_false', decide_eq_true_eq, decide_eq_false_iff_not, mk_empty] at h8
   have hB : ¬ (a.states < 1 ∨ Sp.rstate a a.start = false) := by
    rintro (h9 | h9)
    ·omega
    ·have h10 := h8.2; rw [show Aut.mk a.states a.start a.final a.edges = a from rfl, h9] at h10; cases h10
   rw [if_neg hB] at hA
   obtain ⟨h12, h13⟩ := ite_ret hq2
   rw [hA, if_neg (by simpa [Sp.prev] using h12)]; exact h13
theorem regular_Check.ok (W : World) : CtrOK Go.Proofs.Tryz.prog W 11 regular_Check.C := by
 refine funOK (Γ := lookC [(24, slices_ContainsFunc__alt.C), (26, regular_Automaton_isState.C)]) (lookC_ok (fun p hp => by
  simp only [List.mem_cons, List.not_mem_nil, or_false] at hp
  rcases hp with rfl | rfl
  ·exact slices_ContainsFunc__alt.ok W
  ·exact regular_Automaton_isState.ok W)) (Λ := fun a_ => match a_ with | a => (regular_Check.Λ a)) (Λr := fun a_ => match a_ with | a => (fun _ => none)) ?_
 intro a ha
 refine Eq.mpr ?_ (@regular_Check.main a ha)
 kernel_rfl
end Go.AL
namespace Go.AL
set_option linter.unusedVariables false
end Go.AL
namespace Go.AL
set_option linter.unusedVariables false
set_option maxRecDepth 10000
end Go.AL
namespace Go.AL
set_option linter.unusedVariables false
set_option linter.unusedSimpArgs false
set_option maxRecDepth 10000
attribute [local irreducible] wpF wpFX wpM wpFM
end Go.AL
