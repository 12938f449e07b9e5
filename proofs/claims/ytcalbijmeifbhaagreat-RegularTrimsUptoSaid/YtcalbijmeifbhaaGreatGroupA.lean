/- Functions of the program: what they return, and that they do. -/
import Derived.Test.YtcalbijmeifbhaaGreatEvalC
import Derived.Test.YtcalbijmeifbhaaGreatProg
import Derived.KernelRfl
import Derived.Test.YtcalbijmeifbhaaGreatHandA
import Derived.Test.YtcalbijmeifbhaaGreatHandC
set_option linter.unusedVariables false
set_option linter.unusedSimpArgs false
namespace Go.AL
set_option linter.unusedVariables false
end Go.AL
namespace Sp
open Go.AL
def letter (c : Int) : Bool := (decide (97 ≤ c) && decide (c ≤ 122)) || (decide (65 ≤ c) && decide (c ≤ 90))
def digit (c : Int) : Bool := decide (48 ≤ c) && decide (c ≤ 57)
def inner (c : Int) : Bool := letter c || digit c || decide (c = 45) || decide (c = 95)
def allFrom (p : Int → Bool) (s : ByteArray) (i : Nat) : Bool := (List.range (s.size - i)).all fun k => p (byteAt s (i + k))
def allB (p : Int → Bool) (s : ByteArray) : Bool := allFrom p s 0
theorem allFrom_step {p : Int → Bool} {s : ByteArray} {i : Nat} (h : i < s.size) : allFrom p s i = (p (byteAt s i) && allFrom p s (i + 1)) := by
 unfold allFrom
 rw [show s.size - i = (s.size - (i + 1)) + 1 by omega, List.range_succ_eq_map]
 simp only [List.all_cons, Nat.add_zero, List.all_map]
 congr 2
 funext k
 simp only [Function.comp]
 rw [show i + k.succ = i + 1 + k by omega]
theorem allFrom_end {p : Int → Bool} {s : ByteArray} {i : Nat} (h : s.size ≤ i) : allFrom p s i = true := by
 unfold allFrom
 rw [show s.size - i = 0 by omega]; rfl
def name (s : ByteArray) (most : Int) : Bool := !decide (s = ByteArray.empty) && decide ((s.size : Int) ≤ most) && letter (byteAt s 0) && allB inner s
def wordC (c : Int) : Bool := !(decide (c < 32) || decide (126 < c))
def word (s : ByteArray) : Bool := allB wordC s && !decide (s = ByteArray.empty) && decide ((s.size : Int) ≤ 60)
end Sp
namespace Go.AL
end Go.AL
namespace Go.AL
set_option linter.unusedVariables false
set_option maxRecDepth 10000
end Go.AL
namespace Go.AL
set_option linter.unusedVariables false
set_option linter.unusedSimpArgs false
set_option maxRecDepth 10000
attribute [local irreducible] wpF wpFX wpM wpFM
end Go.AL
namespace Go.AL
set_option linter.unusedVariables false
end Go.AL
namespace Sp
open Go.AL
def number (s : ByteArray) : Bool :=
 decide (s = ⟨#[48]⟩) || (let d := if !decide (s = ByteArray.empty) && decide (byteAt s 0 = 45) then s.extract 1 s.size else s
  allB digit d && !decide (d = ByteArray.empty) && decide ((d.size : Int) ≤ 500) && !decide (byteAt d 0 = 48))
def varC (c : Int) : Bool := letter c || digit c
def var (s : ByteArray) : Bool := allB varC s && !decide (s = ByteArray.empty) && decide ((s.size : Int) ≤ 40)
def sym (t : Tm) : Bool := decide (1 ≤ t.kind) && decide (t.kind ≤ 3)
mutual
def nodesT : Tm → Nat
 | .mk _ _ ks => nodesL ks + 1
def nodesL : List Tm → Nat
 | [] => 0
 | t :: l => nodesT t + nodesL l
end
mutual
def depthT : Tm → Nat
 | .mk k _ ks => if k = 4 ∨ k = 8 ∨ 0 < ks.length then depthL ks + 1 else depthL ks
def depthL : List Tm → Nat
 | [] => 0
 | t :: l => max (depthT t) (depthL l)
end
theorem nodesT_eq (t : Tm) : nodesT t = nodesL t.kids + 1 := by cases t; simp [nodesT, Tm.kids]
theorem depthT_eq (t : Tm) : depthT t = if t.kind = 4 ∨ t.kind = 8 ∨ 0 < t.kids.length then depthL t.kids + 1 else depthL t.kids := by cases t; rfl
theorem nodesL_mem {t : Tm} {l : List Tm} (h : t ∈ l) : nodesL t.kids + 1 ≤ nodesL l := by
 induction l with
 | nil => cases h
 | cons x l ih =>
   simp only [nodesL]
   rcases List.mem_cons.1 h with rfl | h
   ·rw [nodesT_eq]; omega
   ·have := ih h; omega
theorem nodesL_len (l : List Tm) : l.length ≤ nodesL l := by
 induction l with
 | nil => simp
 | cons x l ih => simp only [nodesL, List.length_cons, nodesT_eq]; omega
mutual
theorem depthT_le : (t : Tm) → depthT t ≤ nodesT t
 | .mk k s ks => by
   have := depthL_le ks
   simp only [depthT, nodesT]
   split <;> omega
theorem depthL_le : (l : List Tm) → depthL l ≤ nodesL l
 | [] => by simp [depthL]
 | t :: l => by
   have h1 := depthT_le t
   have h2 := depthL_le l
   simp only [depthL, nodesL]; omega
end
def right (t : Tm) : Bool :=
 if t.kind ≠ 4 ∧ t.kind ≠ 8 ∧ 0 < t.kids.length then false else
 if t.kind = 1 then decide ((t.text.size : Int) = 1) else
 if t.kind = 2 then word t.text else
 if t.kind = 3 then number t.text else
 if t.kind = 4 then decide (t.text = ByteArray.empty) else
 if t.kind = 5 ∨ t.kind = 6 ∨ t.kind = 7 then var t.text else
 if t.kind = 8 then name t.text 40 else false
mutual
def formT : Tm → Int → Bool
 | .mk k s ks, most => right (.mk k s ks) && decide (k ≤ most) && formL ks most
def formL : List Tm → Int → Bool
 | [], _ => true
 | t :: l, most => formT t most && formL l most
end
def wrong (l : List Tm) (most : Int) : Int := if 4000 < nodesL l then 5 else if 100 < depthL l then 6 else if formL l most then 0 else 2
def sign (a b : ByteArray) : Int := if Go.Op.bytesLess a.toList b.toList then -1 else if Go.Op.bytesLess a.toList b.toList || decide (a = b) then 0 else 1
mutual
def cmpT : Tm → Tm → Int
 | .mk k s ks, t => if k = t.kind then (if sign s t.text = 0 then cmpL ks t.kids else sign s t.text) else if k < t.kind then -1 else 1
def cmpL : List Tm → List Tm → Int
 | [], b => if b.length = 0 then 0 else -1
 | t :: l, b => match b with
   | [] => 1
   | u :: m => if cmpT t u = 0 then cmpL l m else cmpT t u
end
theorem cmpT_eq (t u : Tm) : cmpT t u = if t.kind = u.kind then (if sign t.text u.text = 0 then cmpL t.kids u.kids else sign t.text u.text) else if t.kind < u.kind then -1 else 1 := by cases t; rfl
def pfx : List Tm → List Tm → Int
 | t :: l, u :: m => if cmpT t u = 0 then pfx l m else cmpT t u
 | _, _ => 0
theorem cmpL_pfx : ∀ (a b : List Tm), cmpL a b = if pfx a b = 0 then (if a.length < b.length then -1 else if b.length < a.length then 1 else 0) else pfx a b
 | [], [] => by simp [cmpL, pfx]
 | [], _ :: _ => by simp [cmpL, pfx]
 | _ :: _, [] => by simp [cmpL, pfx]
 | t :: l, u :: m => by
   have := cmpL_pfx l m
   by_cases h : cmpT t u = 0
   ·simp [cmpL, pfx, h, this]
   ·simp [cmpL, pfx, h]
theorem pfx_end {a b : List Tm} (h : a = [] ∨ b = []) : pfx a b = 0 := by
 rcases h with rfl | rfl
 ·simp [pfx]
 ·cases a <;> simp [pfx]
def okL (l : List Tm) : Prop := nodesL l ≤ 1000000000
end Sp
namespace Go.AL
end Go.AL
namespace Go.AL
set_option linter.unusedVariables false
set_option maxRecDepth 10000
end Go.AL
namespace Go.AL
set_option linter.unusedVariables false
set_option linter.unusedSimpArgs false
set_option maxRecDepth 10000
attribute [local irreducible] wpF wpFX wpM wpFM
end Go.AL
namespace Go.AL
set_option linter.unusedVariables false
end Go.AL
namespace Sp
open Go.AL
-- The number of terms, as far as a bound; n are counted already.
mutual
def cntT : Tm → Int → Int → Int
 | .mk _ _ ks, left, depth => cntL ks 0 left depth
def cntL : List Tm → Int → Int → Int → Int
 | [], n, _, _ => n
 | t :: l, n, left, depth => if left < n then n else if 150 < depth then left + 1 else cntL l (n + (1 + cntT t (left - n - 1) (depth + 1))) left depth
end
mutual
theorem cntT_le : (t : Tm) → (left depth : Int) → -1 ≤ left → 0 ≤ cntT t left depth ∧ cntT t left depth ≤ left + 1
 | .mk k s ks, left, depth, h => by rw [cntT]; exact cntL_le ks 0 left depth (by omega) (by omega)
theorem cntL_le : (l : List Tm) → (n left depth : Int) → 0 ≤ n → n ≤ left + 1 → 0 ≤ cntL l n left depth ∧ cntL l n left depth ≤ left + 1
 | [], n, left, depth, h1, h2 => by rw [cntL]; omega
 | t :: l, n, left, depth, h1, h2 => by
   rw [cntL]
   split
   ·omega
   ·split
    ·omega
    ·have := cntT_le t (left - n - 1) (depth + 1) (by omega)
     exact cntL_le l _ left depth (by omega) (by omega)
end
theorem cntT_eq (t : Tm) (left depth : Int) : cntT t left depth = cntL t.kids 0 left depth := by cases t; rfl
mutual
def shortT : Tm → Bool
 | .mk _ s ks => decide ((s.size : Int) ≤ 600) && shortL ks
def shortL : List Tm → Bool
 | [] => true
 | t :: l => shortT t && shortL l
end
theorem shortT_eq (t : Tm) : shortT t = (decide ((t.text.size : Int) ≤ 600) && shortL t.kids) := by cases t; rfl
def small (l : List Tm) (most : Int) : Bool := decide (cntL l 0 most 0 ≤ most) && shortL l
def cntO : List Tm → Int → Int → Int → Int → LOut (Int × Int) Int
 | [], n, _, _, i => .brk (n, i)
 | t :: l, n, left, depth, i => if left < n then .brk (n, i) else if 150 < depth then .ret (left + 1) else cntO l (n + (1 + cntT t (left - n - 1) (depth + 1))) left depth (i + 1)
theorem cntO_brk : ∀ (l : List Tm) (n left depth i x j : Int), cntO l n left depth i = .brk (x, j) → cntL l n left depth = x
 | [], n, left, depth, i, x, j, h => by simp only [cntO, LOut.brk.injEq, Prod.mk.injEq] at h; rw [cntL]; exact h.1
 | t :: l, n, left, depth, i, x, j, h => by
   rw [cntO] at h; rw [cntL]
   split at h
   ·rename_i h1; rw [if_pos h1]; simp only [LOut.brk.injEq, Prod.mk.injEq] at h; exact h.1
   ·rename_i h1; rw [if_neg h1]
    split at h
    ·cases h
    ·rename_i h2; rw [if_neg h2]; exact cntO_brk l _ left depth _ x j h
theorem cntO_ret : ∀ (l : List Tm) (n left depth i x : Int), cntO l n left depth i = .ret x → cntL l n left depth = x
 | [], n, left, depth, i, x, h => by simp only [cntO] at h; cases h
 | t :: l, n, left, depth, i, x, h => by
   rw [cntO] at h; rw [cntL]
   split at h
   ·cases h
   ·rename_i h1; rw [if_neg h1]
    split at h
    ·rename_i h2; rw [if_pos h2]; simpa using h
    ·rename_i h2; rw [if_neg h2]; exact cntO_ret l _ left depth _ x h
end Sp
namespace Go.AL
def l09_nodes.L0 : LD := { cs := [0, 1, 2], cts := [.lst (.nm 0), .int .i64, .int .i64], pts := [], vs := [7, 8], os := [], vts := [.int .i64, .int .i64], own := [false, false], ro := [0, 1, 2], nx := 100 }
def l09_nodes.Λ (l : (List Tm)) (left : Int) (depth : Int) : Nat → Option (Loop (ElT [.int .i64])) := fun id =>
 if id = 0 then some (mkLoop l09_nodes.L0
  (fun (c_ : (List Tm) × Int × Int) (s_ : Int × Int) => match c_, s_ with | (c_l, c_left, c_depth), (n, i) => c_l = l ∧ c_left = left ∧ c_depth = depth ∧ 0 ≤ i ∧ i ≤ l.length ∧ 0 ≤ n ∧ n ≤ left + 1)
  (fun (c_ : (List Tm) × Int × Int) (s_ : Int × Int) => match c_, s_ with | (c_l, c_left, c_depth), (n, i) => (l.length - i : Int).toNat)
  (fun (c_ : (List Tm) × Int × Int) (s_ : Int × Int) => match c_, s_ with | (c_l, c_left, c_depth), (n, i) => Sp.cntO (l.drop i.toNat) n left depth i) [] true) else
 none
def l09_nodes.C : Ctr := pureCtr [.lst (.nm 0), .int .i64, .int .i64] [.int .i64] (some (fun (a_ : (List Tm) × Int × Int) => match a_ with | (l, left, depth) => -1 ≤ left ∧ left ≤ 1000000 ∧ 0 ≤ depth ∧ depth ≤ 151)) (fun (a_ : (List Tm) × Int × Int) => match a_ with | (l, left, depth) => (Sp.cntL l 0 left depth))
def l09_short.L0 : LD := { cs := [0], cts := [.lst (.nm 0)], pts := [], vs := [3], os := [], vts := [.int .i64], own := [false], ro := [0], nx := 100 }
def l09_short.Λ (l : (List Tm)) : Nat → Option (Loop (ElT [.bool])) := fun id =>
 if id = 0 then some (mkLoop l09_short.L0
  (fun (c_ : (List Tm)) (s_ : Int) => match c_, s_ with | c_l, i => c_l = l ∧ 0 ≤ i ∧ i ≤ l.length)
  (fun (c_ : (List Tm)) (s_ : Int) => match c_, s_ with | c_l, i => (l.length - i : Int).toNat)
  (fun (c_ : (List Tm)) (s_ : Int) => match c_, s_ with | c_l, i => if Sp.shortL (l.drop i.toNat) then .brk (l.length : Int) else .ret false) [] true) else
 none
def l09_short.C : Ctr := pureCtr [.lst (.nm 0)] [.bool] none (fun (l : (List Tm)) => (Sp.shortL l))
def l09_Small.C : Ctr := pureCtr [.lst (.nm 0), .int .i64] [.bool] (some (fun (a_ : (List Tm) × Int) => match a_ with | (l, most) => -1 ≤ most ∧ most ≤ 1000000)) (fun (a_ : (List Tm) × Int) => match a_ with | (l, most) => (Sp.small l most))
end Go.AL
namespace Go.AL
set_option linter.unusedVariables false
set_option maxRecDepth 10000
def l09_nodes.l0 (l : (List Tm)) (left : Int) (depth : Int) : Prop :=
 ∀ l1 : List Tm, ∀ i i1 i2 i3 : Int, l1=l∧i=left∧i1=depth∧0≤i3∧i3≤(↑(List.length l) : Int)∧0≤i2∧i2≤left + 1→List.length l1 < 9223372036854775808→ifB (decide (i3 < (↑(List.length l1) : Int)) && decide (i2≤i)) (ifB (decide (150 < i1)) (inR .i64 (i + 1)∧(Sp.cntO (List.drop (Int.toNat i3) l) i2 left depth i3 : LOut (Int × Int) Int)=LOut.ret (i + 1)) ((0≤i3∧i3 < (↑(List.length l1) : Int))∧inR .i64 (i - i2)∧inR .i64 (i - i2 - 1)∧inR .i64 (i1 + 1)∧(((-1)≤i - i2 - 1∧i - i2 - 1≤1000000∧0≤i1 + 1∧i1 + 1≤151)∧Sp.nodesL (Tm.kids (nth Inhabited.default l1 i3)) < Sp.nodesL l)∧∀ i4 : Int, Sp.cntL (Tm.kids (nth Inhabited.default l1 i3)) 0 (i - i2 - 1) (i1 + 1)=i4→inR .i64 (1 + i4)∧inR .i64 (i2 + (1 + i4))∧inR .i64 (i3 + 1)∧(l1=l∧i=left∧i1=depth∧0≤i3 + 1∧i3 + 1≤(↑(List.length l) : Int)∧0≤i2 + (1 + i4)∧i2 + (1 + i4)≤left + 1)∧Int.toNat ((↑(List.length l) : Int) - (i3 + 1)) < Int.toNat ((↑(List.length l) : Int) - i3)∧(Sp.cntO (List.drop (Int.toNat (i3 + 1)) l) (i2 + (1 + i4)) left depth (i3 + 1) : LOut (Int × Int) Int)=Sp.cntO (List.drop (Int.toNat i3) l) i2 left depth i3)) ((Sp.cntO (List.drop (Int.toNat i3) l) i2 left depth i3 : LOut (Int × Int) Int)=LOut.brk (i2, i3))
def l09_nodes.t (l : (List Tm)) (left : Int) (depth : Int) : Prop :=
 (l=l∧left=left∧depth=depth∧(0 : Int)≤0∧0≤(↑(List.length l) : Int)∧(0 : Int)≤0∧0≤left + 1)∧l09_nodes.l0 l left depth∧(∀ i i1 : Int, (Sp.cntO (List.drop (Int.toNat 0) l) 0 left depth 0 : LOut (Int × Int) Int)=LOut.brk (i, i1)→Sp.cntL l 0 left depth=i)∧∀ i : Int, (Sp.cntO (List.drop (Int.toNat 0) l) 0 left depth 0 : LOut (Int × Int) Int)=LOut.ret i→Sp.cntL l 0 left depth=i
def l09_short.l0 (l : (List Tm)) : Prop :=
 ∀ l1 : List Tm, ∀ i : Int, l1=l∧0≤i∧i≤(↑(List.length l) : Int)→List.length l1 < 9223372036854775808→ifB (decide (i < (↑(List.length l1) : Int))) ((0≤i∧i < (↑(List.length l1) : Int))∧(ByteArray.size (Tm.text (nth Inhabited.default l1 i)) < 9223372036854775808→(decide (600 < (↑(ByteArray.size (Tm.text (nth Inhabited.default l1 i))) : Int))=false→0≤i∧i < (↑(List.length l1) : Int))∧(decide (600 < (↑(ByteArray.size (Tm.text (nth Inhabited.default l1 i))) : Int))=false→True∧Sp.nodesL (Tm.kids (nth Inhabited.default l1 i)) < Sp.nodesL l)∧ifB (decide (600 < (↑(ByteArray.size (Tm.text (nth Inhabited.default l1 i))) : Int)) || (!(Sp.shortL (Tm.kids (nth Inhabited.default l1 i))))) ((ite (Sp.shortL (List.drop (Int.toNat i) l)=true) (LOut.brk (↑(List.length l) : Int)) (LOut.ret false) : LOut _ Bool)=LOut.ret false) (inR .i64 (i + 1)∧(l1=l∧0≤i + 1∧i + 1≤(↑(List.length l) : Int))∧Int.toNat ((↑(List.length l) : Int) - (i + 1)) < Int.toNat ((↑(List.length l) : Int) - i)∧(ite (Sp.shortL (List.drop (Int.toNat (i + 1)) l)=true) (LOut.brk (↑(List.length l) : Int)) (LOut.ret false) : LOut _ Bool)=ite (Sp.shortL (List.drop (Int.toNat i) l)=true) (LOut.brk (↑(List.length l) : Int)) (LOut.ret false)))) ((ite (Sp.shortL (List.drop (Int.toNat i) l)=true) (LOut.brk (↑(List.length l) : Int)) (LOut.ret false) : LOut _ Bool)=LOut.brk i)
def l09_short.t (l : (List Tm)) : Prop :=
 (l=l∧(0 : Int)≤0∧0≤(↑(List.length l) : Int))∧l09_short.l0 l∧(∀ i : Int, (ite (Sp.shortL (List.drop (Int.toNat 0) l)=true) (LOut.brk (↑(List.length l) : Int)) (LOut.ret false) : LOut _ Bool)=LOut.brk i→Sp.shortL l=true)∧∀ b : Bool, (ite (Sp.shortL (List.drop (Int.toNat 0) l)=true) (LOut.brk (↑(List.length l) : Int)) (LOut.ret false) : LOut _ Bool)=LOut.ret b→Sp.shortL l=b
def l09_Small.t (l : (List Tm)) (most : Int) : Prop :=
 ((-1)≤most∧most≤1000000∧(0 : Int)≤0∧(0 : Int)≤151)∧∀ i : Int, Sp.cntL l 0 most 0=i→Sp.small l most=(decide (i≤most) && Sp.shortL l)
end Go.AL
namespace Go.AL
set_option linter.unusedVariables false
set_option linter.unusedSimpArgs false
set_option maxRecDepth 10000
attribute [local irreducible] wpF wpFX wpM wpFM
theorem Sp.less_irr : ∀ (l : List UInt8), Go.Op.bytesLess l l = false
 | [] => rfl
 | x :: l => by simp [Go.Op.bytesLess, Sp.less_irr l]
theorem Sp.sign_zero {a b : ByteArray} : Sp.sign a b = 0 ↔ a = b := by
 unfold Sp.sign
 constructor
 ·intro h
  split at h
  ·cases h
  ·rename_i h1
   split at h
   ·rename_i h2
    simp only [Bool.or_eq_true, decide_eq_true_eq] at h2
    rcases h2 with h2 | h2
    ·exact absurd h2 h1
    ·exact h2
   ·cases h
 ·rintro rfl
  rw [Sp.less_irr]; simp
mutual
theorem Sp.cmpT_refl : ∀ t : Tm, Sp.cmpT t t = 0
 | .mk k s ks => by
   rw [Sp.cmpT]
   simp only [Tm.kind, Tm.text, Tm.kids, if_true, Sp.sign_zero.2 rfl]
   exact Sp.cmpL_refl ks
theorem Sp.cmpL_refl : ∀ l : List Tm, Sp.cmpL l l = 0
 | [] => rfl
 | t :: l => by
   rw [Sp.cmpL]
   simp only [Sp.cmpT_refl t, if_true]
   exact Sp.cmpL_refl l
end
theorem l09_nodes.l0_ok (l : List Tm) (left depth : Int) (ha : -1 ≤ left ∧ left ≤ 1000000 ∧ 0 ≤ depth ∧ depth ≤ 151) : l09_nodes.l0 l left depth := by
 rintro l1 a b n i ⟨e, e1, e2, h1, h2, h3, h4⟩ hs
 subst l1 a b
 refine ifB_of (fun h => ?_) fun h => ?_
 ·simp only [Bool.and_eq_true, Bool.or_eq_true, Bool.not_eq_true', Bool.or_eq_false_iff, Bool.and_eq_false_iff, Bool.not_eq_false', decide_eq_true_eq, decide_eq_false_iff_not, mk_empty] at h
  have hi : i.toNat < l.length := by omega
  have hk := Sp.nodesL_mem (nth_mem (d := default) hi)
  have e1 : (i + 1).toNat = i.toNat + 1 := by omega
  rw [nth_drop (d := default) hi]
  simp only [Sp.cntO]
  rw [if_neg (by omega)]
  refine ifD (fun h5 => ⟨inR64 (by omega), by rw [if_pos h5]⟩) fun h5 => ?_
  rw [if_neg h5]
  refine ⟨by omega, inR64 (by omega), inR64 (by omega), inR64 (by omega), ⟨by omega, by omega⟩, fun c hc => ?_⟩
  have := Sp.cntL_le (nth default l i).kids 0 (left - n - 1) (depth + 1) (by omega) (by omega)
  rw [Sp.cntT_eq, e1]
  rw [hc] at this ⊢
  exact ⟨inR64 (by omega), inR64 (by omega), inR64 (by omega), ⟨by trivial, by trivial, by trivial, by omega⟩, by omega, by trivial⟩
 ·simp only [Bool.and_eq_true, Bool.or_eq_true, Bool.not_eq_true', Bool.or_eq_false_iff, Bool.and_eq_false_iff, Bool.not_eq_false', decide_eq_true_eq, decide_eq_false_iff_not, mk_empty] at h
  by_cases hi : i < l.length
  ·rw [nth_drop (d := default) (by omega)]; simp only [Sp.cntO]; rw [if_pos (by omega)]
  ·rw [List.drop_eq_nil_of_le (by omega)]; simp only [Sp.cntO]
theorem l09_nodes.main (l : List Tm) (left depth : Int) (ha : -1 ≤ left ∧ left ≤ 1000000 ∧ 0 ≤ depth ∧ depth ≤ 151) : l09_nodes.t l left depth :=
 ⟨⟨rfl, rfl, rfl, by omega⟩, l09_nodes.l0_ok l left depth ha, fun x j h => Sp.cntO_brk _ _ _ _ _ _ _ h, fun x h => Sp.cntO_ret _ _ _ _ _ _ h⟩
theorem l09_nodes.ok (W : World) : CtrOK Go.Proofs.Tryz.prog W 16 l09_nodes.C := by
 refine funOK_rec (fun (a_ : (List Tm) × Int × Int) => match a_ with | (l, left, depth) => Sp.nodesL l) (l := []) (fun p hp => by cases hp) (Λ := fun a_ => match a_ with | (l, left, depth) => (l09_nodes.Λ l left depth)) (Λr := fun a_ => match a_ with | (l, left, depth) => (fun _ => none)) ?_
 intro a ha
 obtain ⟨l, left, depth⟩ := a
 refine Eq.mpr ?_ (@l09_nodes.main l left depth ha)
 kernel_rfl
theorem l09_short.l0_ok (l : List Tm) : l09_short.l0 l := by
 rintro l1 i ⟨e, h1, h2⟩ hs
 subst l1
 refine ifD (fun h => ?_) fun h => ?_
 ·have hi : i.toNat < l.length := by omega
  have hk := Sp.nodesL_mem (nth_mem (d := default) hi)
  have e1 : (i + 1).toNat = i.toNat + 1 := by omega
  rw [nth_drop (d := default) hi]
  simp only [Sp.shortL, Sp.shortT_eq, e1]
  refine ⟨by omega, fun _ => ⟨fun _ => by omega, fun _ => ⟨trivial, by omega⟩, ifB_of (fun hb => ?_) fun hb => ⟨inR64 (by omega), ⟨by trivial, by omega⟩, by omega, ?_⟩⟩⟩
  ·simp only [Bool.and_eq_true, Bool.or_eq_true, Bool.not_eq_true', Bool.or_eq_false_iff, Bool.and_eq_false_iff, Bool.not_eq_false', decide_eq_true_eq, decide_eq_false_iff_not, mk_empty] at hb
   rw [if_neg]
   rcases hb with hb | hb
   ·simp [show ¬ (((nth default l i).text.size : Int) ≤ 600) by omega]
   ·simp [hb]
  ·simp only [Bool.and_eq_true, Bool.or_eq_true, Bool.not_eq_true', Bool.or_eq_false_iff, Bool.and_eq_false_iff, Bool.not_eq_false', decide_eq_true_eq, decide_eq_false_iff_not, mk_empty] at hb
   simp [hb, show (((nth default l i).text.size : Int) ≤ 600) by omega]
 ·rw [List.drop_eq_nil_of_le (by omega)]; simp only [Sp.shortL, if_true]; congr 1; omega
theorem l09_short.main (l : List Tm) : l09_short.t l := by
 refine ⟨⟨rfl, by omega⟩, l09_short.l0_ok l, fun i hi => ?_, fun b hb => ?_⟩
 ·split at hi
  ·rename_i h; simpa using h
  ·simp at hi
 ·split at hb
  ·simp at hb
  ·rename_i h; simp at h hb; simp [h, hb]
theorem l09_short.ok (W : World) : CtrOK Go.Proofs.Tryz.prog W 17 l09_short.C := by
 refine funOK_rec (fun (l : (List Tm)) => Sp.nodesL l) (l := []) (fun p hp => by cases hp) (Λ := fun a_ => match a_ with | l => (l09_short.Λ l)) (Λr := fun a_ => match a_ with | l => (fun _ => none)) ?_
 intro a ha
 refine Eq.mpr ?_ (@l09_short.main a)
 kernel_rfl
theorem l09_Small.main (l : List Tm) (most : Int) (ha : -1 ≤ most ∧ most ≤ 1000000) : l09_Small.t l most := by
 refine ⟨by omega, fun i hi => ?_⟩
 subst hi; rfl
theorem l09_Small.ok (W : World) : CtrOK Go.Proofs.Tryz.prog W 6 l09_Small.C := by
 refine funOK (Γ := lookC [(16, l09_nodes.C), (17, l09_short.C)]) (lookC_ok (fun p hp => by
  simp only [List.mem_cons, List.not_mem_nil, or_false] at hp
  rcases hp with rfl | rfl
  ·exact l09_nodes.ok W
  ·exact l09_short.ok W)) (Λ := fun a_ => match a_ with | (l, most) => (fun _ => none)) (Λr := fun a_ => match a_ with | (l, most) => (fun _ => none)) ?_
 intro a ha
 obtain ⟨l, most⟩ := a
 refine Eq.mpr ?_ (@l09_Small.main l most ha)
 kernel_rfl
end Go.AL
namespace Go.AL
set_option linter.unusedVariables false
end Go.AL
namespace Sp
open Go.AL
def classOf (c : Int) : Int := if letter c = true then 5 else if digit c = true then 6 else if c = 45 ∨ c = 95 then 4 else if c = 32 ∨ c = 9 ∨ c = 10 ∨ c = 13 then 8 else 0
def isCl (c k : Int) : Bool := !decide (Go.bits .and .u8 (classOf c) k = 0)
def every (s : ByteArray) (k : Int) : Bool := allB (fun c => isCl c k) s
def firstBad (s : ByteArray) (p : Nat) : Nat := p + ((List.range (s.size - p)).findIdx fun k => !wordC (byteAt s (p + k)))
end Sp
namespace Go.AL
def term_classOf.C : Ctr := pureCtr [.int .u8] [.int .u8] none (fun (c : Int) => (Sp.classOf c))
def term_is.C : Ctr := pureCtr [.int .u8, .int .u8] [.bool] none (fun (a_ : Int × Int) => match a_ with | (c, k) => (Sp.isCl c k))
def term_every.L0 : LD := { cs := [0, 1, 7], cts := [.str, .int .u8, .int .i64], pts := [], vs := [8], os := [], vts := [.int .i64], own := [false], ro := [0, 1, 6, 7], nx := 100 }
def term_every.Λ (s : ByteArray) (k : Int) : Nat → Option (Loop (ElT [.bool])) := fun id =>
 if id = 0 then some (mkLoop term_every.L0
  (fun (c_ : ByteArray × Int × Int) (s_ : Int) => match c_, s_ with | (c_s, c_k, n), i => c_s = s ∧ c_k = k ∧ n = s.size ∧ s.size < 9223372036854775808 ∧ 0 ≤ i ∧ i ≤ s.size)
  (fun (c_ : ByteArray × Int × Int) (s_ : Int) => match c_, s_ with | (c_s, c_k, n), i => (s.size - i : Int).toNat)
  (fun (c_ : ByteArray × Int × Int) (s_ : Int) => match c_, s_ with | (c_s, c_k, n), i => if Sp.allFrom (fun c => Sp.isCl c k) s i.toNat then .brk (s.size : Int) else .ret false) [] true) else
 none
def term_every.C : Ctr := pureCtr [.str, .int .u8] [.bool] none (fun (a_ : ByteArray × Int) => match a_ with | (s, k) => (Sp.every s k))
def stringslite_HasPrefix.C : Ctr := pureCtr [.str, .str] [.bool] none (fun (a_ : ByteArray × ByteArray) => match a_ with | (s, b) => ((decide ((b.size : Int) ≤ s.size) && decide (s.extract 0 b.size = b))))
def term_right_1.C : Ctr := pureCtr [.int .i32] [.bool] none (fun (c : Int) => ((decide (c < 32) || decide (126 < c))))
def strings_indexFunc__r1.L0 : LD := { cs := [2], cts := [.bool], pts := [(1, (.fn 97 [] [])), (10, (.loc 0 0))], vs := [], os := [(0, .sit, [none, none])], vts := [.str, .int .i64], own := [false, false], ro := [0, 1, 2, 9, 10], nx := 100 }
def strings_indexFunc__r1.Λ (s : ByteArray) (truth : Bool) : Nat → Option (Loop (ElT [.int .i64])) := fun id =>
 if id = 0 then some (mkLoop strings_indexFunc__r1.L0
  (fun (c_ : Bool) (s_ : ByteArray × Int) => match c_, s_ with | truth, (t, p) => truth = true ∧ t = s ∧ 0 ≤ p ∧ p ≤ s.size)
  (fun (c_ : Bool) (s_ : ByteArray × Int) => match c_, s_ with | truth, (t, p) => (s.size - p : Int).toNat)
  (fun (c_ : Bool) (s_ : ByteArray × Int) => match c_, s_ with | truth, (t, p) => if Sp.allFrom Sp.wordC s p.toNat then .brk (s, (s.size : Int)) else .ret (Sp.firstBad s p.toNat : Int)) [] true) else
 none
def strings_indexFunc__r1.C : Ctr := pureX [none, some 97, none] [.str, .bool] [.int .i64] (some (fun (a_ : ByteArray × Bool) => match a_ with | (s, truth) => truth = true)) (fun (a_ : ByteArray × Bool) => match a_ with | (s, truth) => ((if Sp.allB Sp.wordC s then (-1 : Int) else (Sp.firstBad s 0 : Int))))
def strings_IndexFunc__r1.C : Ctr := pureX [none, some 97] [.str] [.int .i64] none (fun (s : ByteArray) => ((if Sp.allB Sp.wordC s then (-1 : Int) else (Sp.firstBad s 0 : Int))))
def strings_ContainsFunc__r1.C : Ctr := pureX [none, some 97] [.str] [.bool] none (fun (s : ByteArray) => (!Sp.allB Sp.wordC s))
end Go.AL
namespace Go.AL
set_option linter.unusedVariables false
set_option maxRecDepth 10000
def term_classOf.t (c : Int) : Prop :=
 ifB (decide (97≤c) && decide (c≤122) || decide (65≤c) && decide (c≤90)) (Sp.classOf c=5) (ifB (decide (48≤c) && decide (c≤57)) (Sp.classOf c=6) (ifB (decide (c=45) || decide (c=95)) (Sp.classOf c=4) (ifB (decide (c=32) || decide (c=9) || decide (c=10) || decide (c=13)) (Sp.classOf c=8) (Sp.classOf c=0))))
def term_is.t (c : Int) (k : Int) : Prop :=
 ∀ i : Int, Sp.classOf c=i→Sp.isCl c k=(!(decide (Go.bits Go.BinOp.and IntKind.u8 i k=0)))
def term_every.l0 (s : ByteArray) (k : Int) : Prop :=
 ∀ s1 : ByteArray, ∀ i i1 i2 : Int, s1=s∧i=k∧i1=(↑(ByteArray.size s) : Int)∧ByteArray.size s < 9223372036854775808∧0≤i2∧i2≤(↑(ByteArray.size s) : Int)→ifB (decide (i2 < i1)) ((0≤i2∧i2 < (↑(ByteArray.size s1) : Int))∧∀ b : Bool, Sp.isCl (byteAt s1 (Int.toNat i2)) i=b→ifB (!b) ((ite ((Sp.allFrom (fun i3 : Int => Sp.isCl i3 k) s (Int.toNat i2))=true) (LOut.brk (↑(ByteArray.size s) : Int)) (LOut.ret false) : LOut _ Bool)=LOut.ret false) (inR .i64 (i2 + 1)∧(s1=s∧i=k∧i1=(↑(ByteArray.size s) : Int)∧ByteArray.size s < 9223372036854775808∧0≤i2 + 1∧i2 + 1≤(↑(ByteArray.size s) : Int))∧Int.toNat ((↑(ByteArray.size s) : Int) - (i2 + 1)) < Int.toNat ((↑(ByteArray.size s) : Int) - i2)∧(ite ((Sp.allFrom (fun i3 : Int => Sp.isCl i3 k) s (Int.toNat (i2 + 1)))=true) (LOut.brk (↑(ByteArray.size s) : Int)) (LOut.ret false) : LOut _ Bool)=ite ((Sp.allFrom (fun i3 : Int => Sp.isCl i3 k) s (Int.toNat i2))=true) (LOut.brk (↑(ByteArray.size s) : Int)) (LOut.ret false))) ((ite ((Sp.allFrom (fun i3 : Int => Sp.isCl i3 k) s (Int.toNat i2))=true) (LOut.brk (↑(ByteArray.size s) : Int)) (LOut.ret false) : LOut _ Bool)=LOut.brk i2)
def term_every.t (s : ByteArray) (k : Int) : Prop :=
 ByteArray.size s < 9223372036854775808→(s=s∧k=k∧(↑(ByteArray.size s) : Int)=(↑(ByteArray.size s) : Int)∧ByteArray.size s < 9223372036854775808∧(0 : Int)≤0∧0≤(↑(ByteArray.size s) : Int))∧term_every.l0 s k∧(∀ i : Int, (ite ((Sp.allFrom (fun i1 : Int => Sp.isCl i1 k) s (Int.toNat 0))=true) (LOut.brk (↑(ByteArray.size s) : Int)) (LOut.ret false) : LOut _ Bool)=LOut.brk i→Sp.every s k=true)∧∀ b : Bool, (ite ((Sp.allFrom (fun i : Int => Sp.isCl i k) s (Int.toNat 0))=true) (LOut.brk (↑(ByteArray.size s) : Int)) (LOut.ret false) : LOut _ Bool)=LOut.ret b→Sp.every s k=b
def stringslite_HasPrefix.t (s : ByteArray) (b : ByteArray) : Prop :=
 ByteArray.size s < 9223372036854775808→ByteArray.size b < 9223372036854775808→(decide ((↑(ByteArray.size b) : Int)≤(↑(ByteArray.size s) : Int))=true→(0 : Int)≤0∧0≤(↑(ByteArray.size b) : Int)∧(↑(ByteArray.size b) : Int)≤(↑(ByteArray.size s) : Int))∧(decide ((↑(ByteArray.size b) : Int)≤(↑(ByteArray.size s) : Int)) && decide (ByteArray.extract s 0 (ByteArray.size b)=b))=(decide ((↑(ByteArray.size b) : Int)≤(↑(ByteArray.size s) : Int)) && decide (ByteArray.extract s (Int.toNat 0) (Int.toNat (↑(ByteArray.size b) : Int))=b))
def term_right_1.t (c : Int) : Prop :=
 (decide (c < 32) || decide (126 < c))=(decide (c < 32) || decide (126 < c))
def strings_indexFunc__r1.l0 (s : ByteArray) : Prop :=
 ∀ b : Bool, ∀ s1 : ByteArray, ∀ i : Int, b=true∧s1=s∧0≤i∧i≤(↑(ByteArray.size s) : Int)→ifB (decide (i < (↑(ByteArray.size s1) : Int))) (ifB true (∀ b1 : Bool, (decide ((↑(Prod.fst (Go.Utf8.decode s1 (Int.toNat i))) : Int) < 32) || decide (126 < (↑(Prod.fst (Go.Utf8.decode s1 (Int.toNat i))) : Int)))=b1→ifB (BEq.beq b1 b) ((ite (Sp.allFrom Sp.wordC s (Int.toNat i)=true) (LOut.brk (s, (↑(ByteArray.size s) : Int))) (LOut.ret (↑(Sp.firstBad s (Int.toNat i)) : Int)) : LOut _ Int)=LOut.ret i) ((b=true∧s1=s∧0≤i + (↑(Prod.snd (Go.Utf8.decode s1 (Int.toNat i))) : Int)∧i + (↑(Prod.snd (Go.Utf8.decode s1 (Int.toNat i))) : Int)≤(↑(ByteArray.size s) : Int))∧Int.toNat ((↑(ByteArray.size s) : Int) - (i + (↑(Prod.snd (Go.Utf8.decode s1 (Int.toNat i))) : Int))) < Int.toNat ((↑(ByteArray.size s) : Int) - i)∧(ite (Sp.allFrom Sp.wordC s (Int.toNat (i + (↑(Prod.snd (Go.Utf8.decode s1 (Int.toNat i))) : Int)))=true) (LOut.brk (s, (↑(ByteArray.size s) : Int))) (LOut.ret (↑(Sp.firstBad s (Int.toNat (i + (↑(Prod.snd (Go.Utf8.decode s1 (Int.toNat i))) : Int)))) : Int)) : LOut _ Int)=ite (Sp.allFrom Sp.wordC s (Int.toNat i)=true) (LOut.brk (s, (↑(ByteArray.size s) : Int))) (LOut.ret (↑(Sp.firstBad s (Int.toNat i)) : Int)))) ((ite (Sp.allFrom Sp.wordC s (Int.toNat i)=true) (LOut.brk (s, (↑(ByteArray.size s) : Int))) (LOut.ret (↑(Sp.firstBad s (Int.toNat i)) : Int)) : LOut _ Int)=LOut.brk (s1, i + (↑(Prod.snd (Go.Utf8.decode s1 (Int.toNat i))) : Int)))) (ifB false False ((ite (Sp.allFrom Sp.wordC s (Int.toNat i)=true) (LOut.brk (s, (↑(ByteArray.size s) : Int))) (LOut.ret (↑(Sp.firstBad s (Int.toNat i)) : Int)) : LOut _ Int)=LOut.brk (s1, i)))
def strings_indexFunc__r1.t (s : ByteArray) (truth : Bool) : Prop :=
 (truth=true∧s=s∧(0 : Int)≤0∧0≤(↑(ByteArray.size s) : Int))∧strings_indexFunc__r1.l0 s∧(∀ s1 : ByteArray, ∀ i : Int, (ite (Sp.allFrom Sp.wordC s (Int.toNat 0)=true) (LOut.brk (s, (↑(ByteArray.size s) : Int))) (LOut.ret (↑(Sp.firstBad s (Int.toNat 0)) : Int)) : LOut _ Int)=LOut.brk (s1, i)→ite (Sp.allB Sp.wordC s=true) (-1) (↑(Sp.firstBad s 0) : Int)=(-1))∧∀ i : Int, (ite (Sp.allFrom Sp.wordC s (Int.toNat 0)=true) (LOut.brk (s, (↑(ByteArray.size s) : Int))) (LOut.ret (↑(Sp.firstBad s (Int.toNat 0)) : Int)) : LOut _ Int)=LOut.ret i→ite (Sp.allB Sp.wordC s=true) (-1) (↑(Sp.firstBad s 0) : Int)=i
def strings_IndexFunc__r1.t (s : ByteArray) : Prop :=
 true=true∧∀ i : Int, ite (Sp.allB Sp.wordC s=true) (-1) (↑(Sp.firstBad s 0) : Int)=i→ite (Sp.allB Sp.wordC s=true) (-1) (↑(Sp.firstBad s 0) : Int)=i
def strings_ContainsFunc__r1.t (s : ByteArray) : Prop :=
 ∀ i : Int, ite (Sp.allB Sp.wordC s=true) (-1) (↑(Sp.firstBad s 0) : Int)=i→(!(Sp.allB Sp.wordC s))=decide (0≤i)
end Go.AL
namespace Go.AL
set_option linter.unusedVariables false
set_option linter.unusedSimpArgs false
set_option maxRecDepth 10000
attribute [local irreducible] wpF wpFX wpM wpFM
theorem Sp.byteAt_get (s : ByteArray) (p : Nat) : byteAt s p = ((s.get! p).toNat : Int) := by
 cases s with
 | mk a =>
   simp only [byteAt, ByteArray.get!, Array.getElem?_toList]
   rw [getElem!_def]
   cases h : a[p]? with
   | none => rfl
   | some x => rfl
theorem Sp.decode_lo {s : ByteArray} {p : Nat} (h : byteAt s p < 128) : Go.Utf8.decode s p = ((byteAt s p).toNat, 1) := by
 have e := Sp.byteAt_get s p
 unfold Go.Utf8.decode
 simp only [Nat.add_zero]
 rw [if_pos (by omega), e, Int.toNat_natCast]
theorem Sp.decode_hi {s : ByteArray} {p : Nat} (h : 128 ≤ byteAt s p) : 128 ≤ (Go.Utf8.decode s p).1 := by
 have e := Sp.byteAt_get s p
 unfold Go.Utf8.decode
 simp only [Nat.add_zero]
 rw [if_neg (by omega)]
 split
 ·split
  ·simp only; omega
  ·decide
 ·split
  ·split
   ·rename_i h1; simp only [Bool.and_eq_true, decide_eq_true_eq] at h1; simp only; omega
   ·decide
  ·split
   ·split
    ·rename_i h1; simp only [Bool.and_eq_true, decide_eq_true_eq] at h1; simp only; omega
    ·decide
   ·decide
theorem Sp.firstBad_here {s : ByteArray} {p : Nat} (hp : p < s.size) (h : Sp.wordC (byteAt s p) = false) : Sp.firstBad s p = p := by
 unfold Sp.firstBad
 rw [show s.size - p = (s.size - (p + 1)) + 1 by omega, List.range_succ_eq_map, List.findIdx_cons]
 simp [h]
theorem Sp.firstBad_next {s : ByteArray} {p : Nat} (hp : p < s.size) (h : Sp.wordC (byteAt s p) = true) : Sp.firstBad s p = Sp.firstBad s (p + 1) := by
 unfold Sp.firstBad
 rw [show s.size - p = (s.size - (p + 1)) + 1 by omega, List.range_succ_eq_map, List.findIdx_cons]
 simp only [Nat.add_zero, h, Bool.not_true, cond_false]
 rw [List.findIdx_map]
 have : ((fun k => !Sp.wordC (byteAt s (p + k))) ∘ Nat.succ) = fun k => !Sp.wordC (byteAt s (p + 1 + k)) := by
  funext k; simp only [Function.comp]; rw [show p + k.succ = p + 1 + k by omega]
 rw [this]; omega
theorem term_classOf.main (c : Int) : term_classOf.t c := by
 unfold term_classOf.t Sp.classOf
 refine ifB_of (fun h => ?_) fun h => ?_
 ·rw [if_pos (show Sp.letter c = true from h)]
 ·rw [if_neg (show ¬ Sp.letter c = true by rw [show Sp.letter c = false from h]; simp)]
  refine ifB_of (fun h => ?_) fun h => ?_
  ·rw [if_pos (show Sp.digit c = true from h)]
  ·rw [if_neg (show ¬ Sp.digit c = true by rw [show Sp.digit c = false from h]; simp)]
   refine ifB_of (fun h => ?_) fun h => ?_ <;> simp only [Bool.and_eq_true, Bool.or_eq_true, Bool.not_eq_true', Bool.or_eq_false_iff, Bool.and_eq_false_iff, Bool.not_eq_false', decide_eq_true_eq, decide_eq_false_iff_not, mk_empty] at h
   ·rw [if_pos h]
   ·rw [if_neg (by omega)]
    refine ifB_of (fun h => ?_) fun h => ?_ <;> simp only [Bool.and_eq_true, Bool.or_eq_true, Bool.not_eq_true', Bool.or_eq_false_iff, Bool.and_eq_false_iff, Bool.not_eq_false', decide_eq_true_eq, decide_eq_false_iff_not, mk_empty] at h
    ·rw [if_pos (by omega)]
    ·rw [if_neg (by omega)]
theorem term_classOf.ok (W : World) : CtrOK Go.Proofs.Tryz.prog W 135 term_classOf.C := by
 refine funOK (Γ := lookC []) (lookC_ok (fun p hp => by cases hp)) (Λ := fun a_ => match a_ with | c => (fun _ => none)) (Λr := fun a_ => match a_ with | c => (fun _ => none)) ?_
 intro a ha
 refine Eq.mpr ?_ (@term_classOf.main a)
 kernel_rfl
theorem term_is.main (c k : Int) : term_is.t c k := by
 rintro i rfl; rfl
theorem term_is.ok (W : World) : CtrOK Go.Proofs.Tryz.prog W 120 term_is.C := by
 refine funOK (Γ := lookC [(135, term_classOf.C)]) (lookC_ok (fun p hp => by
  simp only [List.mem_cons, List.not_mem_nil, or_false] at hp
  subst hp; exact term_classOf.ok W)) (Λ := fun a_ => match a_ with | (c, k) => (fun _ => none)) (Λr := fun a_ => match a_ with | (c, k) => (fun _ => none)) ?_
 intro a ha
 obtain ⟨c, k⟩ := a
 refine Eq.mpr ?_ (@term_is.main c k)
 kernel_rfl
theorem term_every.l0_ok (s : ByteArray) (k : Int) : term_every.l0 s k := by
 rintro s1 k1 n i ⟨e1, e2, e3, h0, h1, h2⟩
 subst s1 k1 n
 refine ifD (fun h => ⟨by omega, fun b hb => ?_⟩) fun h => ?_
 ·rw [Sp.allFrom_step (by omega)]
  simp only [hb]
  cases b with
  | false => simp
  | true =>
    refine ⟨inR64 (by omega), ⟨by trivial, by trivial, by trivial, by omega⟩, by omega, ?_⟩
    rw [show (i + 1).toNat = i.toNat + 1 by omega]; simp
 ·rw [Sp.allFrom_end (by omega), if_pos rfl]; congr 1; omega
theorem term_every.main (s : ByteArray) (k : Int) : term_every.t s k := by
 refine fun hs => ⟨⟨rfl, rfl, rfl, by omega⟩, term_every.l0_ok s k, fun i hi => ?_, fun b hb => ?_⟩
 ·exact (ite_brk hi).1
 ·obtain ⟨h1, h2⟩ := ite_ret hb
  rw [← h2]; simpa [Sp.every, Sp.allB] using h1
theorem term_every.ok (W : World) : CtrOK Go.Proofs.Tryz.prog W 99 term_every.C := by
 refine funOK (Γ := lookC [(120, term_is.C)]) (lookC_ok (fun p hp => by
  simp only [List.mem_cons, List.not_mem_nil, or_false] at hp
  subst hp; exact term_is.ok W)) (Λ := fun a_ => match a_ with | (s, k) => (term_every.Λ s k)) (Λr := fun a_ => match a_ with | (s, k) => (fun _ => none)) ?_
 intro a ha
 obtain ⟨s, k⟩ := a
 refine Eq.mpr ?_ (@term_every.main s k)
 kernel_rfl
theorem stringslite_HasPrefix.main (s b : ByteArray) : stringslite_HasPrefix.t s b := by
 refine fun h1 h2 => ⟨fun h => ?_, rfl⟩
 simp only [Bool.and_eq_true, Bool.or_eq_true, Bool.not_eq_true', Bool.or_eq_false_iff, Bool.and_eq_false_iff, Bool.not_eq_false', decide_eq_true_eq, decide_eq_false_iff_not, mk_empty] at h; omega
theorem stringslite_HasPrefix.ok (W : World) : CtrOK Go.Proofs.Tryz.prog W 142 stringslite_HasPrefix.C := by
 refine funOK (Γ := lookC []) (lookC_ok (fun p hp => by cases hp)) (Λ := fun a_ => match a_ with | (s, b) => (fun _ => none)) (Λr := fun a_ => match a_ with | (s, b) => (fun _ => none)) ?_
 intro a ha
 obtain ⟨s, b⟩ := a
 refine Eq.mpr ?_ (@stringslite_HasPrefix.main s b)
 kernel_rfl
theorem term_right_1.main (c : Int) : term_right_1.t c := rfl
theorem term_right_1.ok (W : World) : CtrOK Go.Proofs.Tryz.prog W 97 term_right_1.C := by
 refine funOK (Γ := lookC []) (lookC_ok (fun p hp => by cases hp)) (Λ := fun a_ => match a_ with | c => (fun _ => none)) (Λr := fun a_ => match a_ with | c => (fun _ => none)) ?_
 intro a ha
 refine Eq.mpr ?_ (@term_right_1.main a)
 kernel_rfl
theorem strings_indexFunc__r1.l0_ok (s : ByteArray) : strings_indexFunc__r1.l0 s := by
 rintro b s1 i ⟨e1, e2, h1, h2⟩
 subst b s1
 refine ifD (fun h => ?_) fun h => ?_
 ·have hp : i.toNat < s.size := by omega
  simp only [ifB_true]
  intro b1 hb1
  have hw : b1 = !Sp.wordC (byteAt s i.toNat) := by
   rw [← hb1]
   by_cases hlo : byteAt s i.toNat < 128
   ·rw [Sp.decode_lo hlo]
    have : 0 ≤ byteAt s i.toNat := Int.natCast_nonneg _
    simp only [Int.toNat_of_nonneg this, Sp.wordC, Bool.not_not]
   ·have := Sp.decode_hi (s := s) (p := i.toNat) (by omega)
    simp only [Sp.wordC, Bool.not_not]
    rw [show decide (126 < ((Go.Utf8.decode s i.toNat).1 : Int)) = true by simp; omega, show decide (126 < byteAt s i.toNat) = true by simp; omega]
    simp
  subst hw
  cases hc : Sp.wordC (byteAt s i.toNat) with
  | false =>
    simp only [Bool.not_false, BEq.rfl, ifB_true]
    rw [Sp.allFrom_step hp, hc, Sp.firstBad_here hp hc]
    simp; omega
  | true =>
    have hlo : byteAt s i.toNat < 128 := by simp [Sp.wordC] at hc; omega
    simp only [Bool.not_true, Bool.false_beq, ifB_false]
    rw [Sp.decode_lo hlo]
    simp only [Int.natCast_one]
    rw [show (i + 1).toNat = i.toNat + 1 by omega, Sp.allFrom_step hp, hc, Sp.firstBad_next hp hc, Bool.true_and]
    exact ⟨⟨by trivial, by trivial, by omega⟩, by omega, by trivial⟩
 ·simp only [ifB_false]
  rw [Sp.allFrom_end (by omega), if_pos rfl]; congr 2; omega
theorem strings_indexFunc__r1.main (s : ByteArray) (truth : Bool) (ha : truth = true) : strings_indexFunc__r1.t s truth := by
 refine ⟨⟨ha, rfl, by omega⟩, strings_indexFunc__r1.l0_ok s, fun a b h => ?_, fun x h => ?_⟩
 ·rw [if_pos (show Sp.allB Sp.wordC s = true from (ite_brk h).1)]
 ·obtain ⟨h1, h2⟩ := ite_ret h
  rw [if_neg (show ¬ Sp.allB Sp.wordC s = true from h1)]; exact h2
theorem strings_indexFunc__r1.ok (W : World) : CtrOK Go.Proofs.Tryz.prog W 136 strings_indexFunc__r1.C := by
 refine funOKX (Γ := lookC [(97, term_right_1.C)]) (lookC_ok (fun p hp => by
  simp only [List.mem_cons, List.not_mem_nil, or_false] at hp
  subst hp; exact term_right_1.ok W)) (Λ := fun a_ => match a_ with | (s, truth) => (strings_indexFunc__r1.Λ s truth)) (Λr := fun a_ => match a_ with | (s, truth) => (fun _ => none)) ?_
 intro a ha
 obtain ⟨s, truth⟩ := a
 refine Eq.mpr ?_ (@strings_indexFunc__r1.main s truth ha)
 kernel_rfl
theorem strings_IndexFunc__r1.main (s : ByteArray) : strings_IndexFunc__r1.t s := by
 refine ⟨rfl, fun i hi => hi⟩
theorem strings_IndexFunc__r1.ok (W : World) : CtrOK Go.Proofs.Tryz.prog W 121 strings_IndexFunc__r1.C := by
 refine funOKX (Γ := lookC [(97, term_right_1.C), (136, strings_indexFunc__r1.C)]) (lookC_ok (fun p hp => by
  simp only [List.mem_cons, List.not_mem_nil, or_false] at hp
  rcases hp with rfl | rfl
  ·exact term_right_1.ok W
  ·exact strings_indexFunc__r1.ok W)) (Λ := fun a_ => match a_ with | s => (fun _ => none)) (Λr := fun a_ => match a_ with | s => (fun _ => none)) ?_
 intro a ha
 refine Eq.mpr ?_ (@strings_IndexFunc__r1.main a)
 kernel_rfl
theorem strings_ContainsFunc__r1.main (s : ByteArray) : strings_ContainsFunc__r1.t s := by
 rintro i rfl
 by_cases h : Sp.allB Sp.wordC s = true
 ·simp [h]
 ·simp [h]
theorem strings_ContainsFunc__r1.ok (W : World) : CtrOK Go.Proofs.Tryz.prog W 96 strings_ContainsFunc__r1.C := by
 refine funOKX (Γ := lookC [(97, term_right_1.C), (121, strings_IndexFunc__r1.C)]) (lookC_ok (fun p hp => by
  simp only [List.mem_cons, List.not_mem_nil, or_false] at hp
  rcases hp with rfl | rfl
  ·exact term_right_1.ok W
  ·exact strings_IndexFunc__r1.ok W)) (Λ := fun a_ => match a_ with | s => (fun _ => none)) (Λr := fun a_ => match a_ with | s => (fun _ => none)) ?_
 intro a ha
 refine Eq.mpr ?_ (@strings_ContainsFunc__r1.main a)
 kernel_rfl
end Go.AL
namespace Go.AL
set_option linter.unusedVariables false
end Go.AL
namespace Sp
open Go.AL
def cutP (s p : ByteArray) : ByteArray × Bool := if decide ((p.size : Int) ≤ s.size) && decide (s.extract 0 p.size = p) then (s.extract p.size s.size, true) else (s, false)
end Sp
namespace Go.AL
def stringslite_CutPrefix.C : Ctr := pureCtr [.str, .str] [.str, .bool] none (fun (a_ : ByteArray × ByteArray) => match a_ with | (s, p) => (Sp.cutP s p))
def strings_CutPrefix.C : Ctr := pureCtr [.str, .str] [.str, .bool] none (fun (a_ : ByteArray × ByteArray) => match a_ with | (s, p) => (Sp.cutP s p))
def term_identifier.C : Ctr := pureCtr [.str, .int .i64] [.bool] none (fun (a_ : ByteArray × Int) => match a_ with | (s, most) => (Sp.name s most))
def term_isNumber.C : Ctr := pureCtr [.str] [.bool] none (fun (s : ByteArray) => (Sp.number s))
def term_right.C : Ctr := pureCtr [.nm 0] [.bool] none (fun (t : Tm) => (Sp.right t))
def term_IsSymbol.C : Ctr := pureCtr [.nm 0] [.bool] none (fun (t : Tm) => (Sp.sym t))
def term_depth.L0 : LD := { cs := [6, 7], cts := [.lst (.nm 0), .int .i64], pts := [], vs := [3, 8], os := [], vts := [.int .i64, .int .i64], own := [false, false], ro := [0, 2, 6, 7], nx := 100 }
def term_depth.Λ (l : (List Tm)) : Nat → Option (Loop (ElT [.int .i64])) := fun id =>
 if id = 0 then some (mkLoop term_depth.L0
  (fun (c_ : (List Tm) × Int) (s_ : Int × Int) => match c_, s_ with | (xs, n), (d, i) => xs = l ∧ n = xs.length ∧ 0 ≤ i ∧ i ≤ xs.length ∧ 0 ≤ d ∧ d ≤ 1000000001)
  (fun (c_ : (List Tm) × Int) (s_ : Int × Int) => match c_, s_ with | (xs, n), (d, i) => (xs.length - i : Int).toNat)
  (fun (c_ : (List Tm) × Int) (s_ : Int × Int) => match c_, s_ with | (xs, n), (d, i) => .brk (max d (Sp.depthL (xs.drop i.toNat)), (xs.length : Int))) [] false) else
 none
def term_depth.C : Ctr := pureCtr [.lst (.nm 0)] [.int .i64] (some (fun (l : (List Tm)) => Sp.okL l)) (fun (l : (List Tm)) => ((Sp.depthL l : Int)))
end Go.AL
namespace Go.AL
set_option linter.unusedVariables false
set_option maxRecDepth 10000
def stringslite_CutPrefix.t (s : ByteArray) (p : ByteArray) : Prop :=
 ∀ b : Bool, (decide ((↑(ByteArray.size p) : Int)≤(↑(ByteArray.size s) : Int)) && decide (ByteArray.extract s 0 (ByteArray.size p)=p))=b→ifB (!b) (Sp.cutP s p=(s, false)) (ByteArray.size p < 9223372036854775808→(0≤(↑(ByteArray.size p) : Int)∧(↑(ByteArray.size p) : Int)≤(↑(ByteArray.size s) : Int)∧(↑(ByteArray.size s) : Int)≤(↑(ByteArray.size s) : Int))∧Sp.cutP s p=(ByteArray.extract s (Int.toNat (↑(ByteArray.size p) : Int)) (Int.toNat (↑(ByteArray.size s) : Int)), true))
def strings_CutPrefix.t (s : ByteArray) (p : ByteArray) : Prop :=
 ∀ s1 : ByteArray, ∀ b : Bool, Sp.cutP s p=(s1, b)→Sp.cutP s p=(s1, b)
def term_identifier.t (s : ByteArray) (most : Int) : Prop :=
 (((!(decide (s=(⟨#[]⟩ : ByteArray)))) && decide ((↑(ByteArray.size s) : Int)≤most))=true→(0 : Int)≤0∧0 < (↑(ByteArray.size s) : Int))∧Sp.name s most=((!(decide (s=(⟨#[]⟩ : ByteArray)))) && decide ((↑(ByteArray.size s) : Int)≤most) && Sp.isCl (byteAt s (Int.toNat 0)) 1 && Sp.every s 4)
def term_isNumber.t (s : ByteArray) : Prop :=
 ∀ s1 : ByteArray, ∀ b : Bool, Sp.cutP s (⟨#[45]⟩ : ByteArray)=(s1, b)→ifB (decide (s1=(⟨#[]⟩ : ByteArray)) || decide (500 < (↑(ByteArray.size s1) : Int)) || (!(Sp.every s1 2))) (Sp.number s=false) (((0 : Int)≤0∧0 < (↑(ByteArray.size s1) : Int))∧Sp.number s=((!(decide (byteAt s1 (Int.toNat 0)=48))) || decide ((↑(ByteArray.size s1) : Int)=1) && (!b)))
def term_right.t (t : Tm) : Prop :=
 ifB (decide (Tm.kind t=4)) (Sp.right t=decide (Tm.text t=(⟨#[]⟩ : ByteArray))) (ifB (decide (Tm.kind t=8)) (∀ b : Bool, Sp.name (Tm.text t) 40=b→Sp.right t=b) (List.length (Tm.kids t) < 9223372036854775808→ifB (decide (0 < (↑(List.length (Tm.kids t)) : Int))) (Sp.right t=false) (ifB (decide (Tm.kind t=1)) (ByteArray.size (Tm.text t) < 9223372036854775808→Sp.right t=decide ((↑(ByteArray.size (Tm.text t)) : Int)=1)) (ifB (decide (Tm.kind t=2)) (Sp.right t=((!(decide (Tm.text t=(⟨#[]⟩ : ByteArray)))) && decide ((↑(ByteArray.size (Tm.text t)) : Int)≤60) && (!(!(Sp.allB Sp.wordC (Tm.text t)))))) (ifB (decide (Tm.kind t=3)) (∀ b : Bool, Sp.number (Tm.text t)=b→Sp.right t=b) (ifB (decide (Tm.kind t=5)) (ifB (decide (Tm.kind t=5)) (Sp.right t=((!(decide (Tm.text t=(⟨#[]⟩ : ByteArray)))) && decide ((↑(ByteArray.size (Tm.text t)) : Int)≤40) && Sp.every (Tm.text t) 3)) (Sp.right t=false)) (ifB (decide (Tm.kind t=6)) (ifB (decide (Tm.kind t=6)) (Sp.right t=((!(decide (Tm.text t=(⟨#[]⟩ : ByteArray)))) && decide ((↑(ByteArray.size (Tm.text t)) : Int)≤40) && Sp.every (Tm.text t) 3)) (Sp.right t=false)) (ifB (decide (Tm.kind t=7)) (Sp.right t=((!(decide (Tm.text t=(⟨#[]⟩ : ByteArray)))) && decide ((↑(ByteArray.size (Tm.text t)) : Int)≤40) && Sp.every (Tm.text t) 3)) (Sp.right t=false)))))))))
def term_IsSymbol.t (t : Tm) : Prop :=
 Sp.sym t=(decide (1≤Tm.kind t) && decide (Tm.kind t≤3))
def term_depth.l0 (l : (List Tm)) : Prop :=
 ∀ l1 : List Tm, ∀ i i1 i2 : Int, l1=l∧i=(↑(List.length l1) : Int)∧0≤i2∧i2≤(↑(List.length l1) : Int)∧0≤i1∧i1≤1000000001→ifB (decide (i2 < i)) ((0≤i2∧i2 < (↑(List.length l1) : Int))∧ifB (decide (Tm.kind (nth Inhabited.default l1 i2)=4) || decide (Tm.kind (nth Inhabited.default l1 i2)=8) || decide (0 < (↑(List.length (Tm.kids (nth Inhabited.default l1 i2))) : Int))) ((Sp.okL (Tm.kids (nth Inhabited.default l1 i2))∧Sp.nodesL (Tm.kids (nth Inhabited.default l1 i2)) < Sp.nodesL l)∧∀ i3 : Int, (↑(Sp.depthL (Tm.kids (nth Inhabited.default l1 i2))) : Int)=i3→inR .i64 (1 + i3)∧inR .i64 (i2 + 1)∧(l1=l∧i=(↑(List.length l1) : Int)∧0≤i2 + 1∧i2 + 1≤(↑(List.length l1) : Int)∧0≤Max.max i1 (1 + i3)∧Max.max i1 (1 + i3)≤1000000001)∧Int.toNat ((↑(List.length l1) : Int) - (i2 + 1)) < Int.toNat ((↑(List.length l1) : Int) - i2)∧(LOut.brk (Max.max (Max.max i1 (1 + i3)) (↑(Sp.depthL (List.drop (Int.toNat (i2 + 1)) l1)) : Int), (↑(List.length l1) : Int)) : LOut _ Int)=LOut.brk (Max.max i1 (↑(Sp.depthL (List.drop (Int.toNat i2) l1)) : Int), (↑(List.length l1) : Int))) (inR .i64 (i2 + 1)∧(l1=l∧i=(↑(List.length l1) : Int)∧0≤i2 + 1∧i2 + 1≤(↑(List.length l1) : Int)∧0≤i1∧i1≤1000000001)∧Int.toNat ((↑(List.length l1) : Int) - (i2 + 1)) < Int.toNat ((↑(List.length l1) : Int) - i2)∧(LOut.brk (Max.max i1 (↑(Sp.depthL (List.drop (Int.toNat (i2 + 1)) l1)) : Int), (↑(List.length l1) : Int)) : LOut _ Int)=LOut.brk (Max.max i1 (↑(Sp.depthL (List.drop (Int.toNat i2) l1)) : Int), (↑(List.length l1) : Int)))) ((LOut.brk (Max.max i1 (↑(Sp.depthL (List.drop (Int.toNat i2) l1)) : Int), (↑(List.length l1) : Int)) : LOut _ Int)=LOut.brk (i1, i2))
def term_depth.t (l : (List Tm)) : Prop :=
 List.length l < 9223372036854775808→(l=l∧(↑(List.length l) : Int)=(↑(List.length l) : Int)∧(0 : Int)≤0∧0≤(↑(List.length l) : Int)∧(0 : Int)≤0∧(0 : Int)≤1000000001)∧term_depth.l0 l∧∀ i i1 : Int, (LOut.brk (Max.max 0 (↑(Sp.depthL (List.drop (Int.toNat 0) l)) : Int), (↑(List.length l) : Int)) : LOut _ Int)=LOut.brk (i, i1)→(↑(Sp.depthL l) : Int)=i
end Go.AL
namespace Go.AL
set_option linter.unusedVariables false
set_option linter.unusedSimpArgs false
set_option maxRecDepth 10000
attribute [local irreducible] wpF wpFX wpM wpFM
theorem Sp.isCl_of (c k : Int) (p : Int → Bool) (h5 : Sp.letter c = true → p c = !decide (Go.bits .and .u8 5 k = 0)) (h6 : Sp.letter c = false → Sp.digit c = true → p c = !decide (Go.bits .and .u8 6 k = 0))
  (h4 : Sp.letter c = false → Sp.digit c = false → (c = 45 ∨ c = 95) → p c = !decide (Go.bits .and .u8 4 k = 0))
  (h0 : Sp.letter c = false → Sp.digit c = false → ¬ (c = 45 ∨ c = 95) → (p c = !decide (Go.bits .and .u8 8 k = 0)) ∧ p c = !decide (Go.bits .and .u8 0 k = 0)) : Sp.isCl c k = p c := by
 unfold Sp.isCl Sp.classOf
 cases hl : Sp.letter c with
 | true => rw [if_pos rfl, h5 hl]
 | false =>
   rw [if_neg (by simp)]
   cases hd : Sp.digit c with
   | true => rw [if_pos rfl, h6 hl hd]
   | false =>
     rw [if_neg (by simp)]
     by_cases h : c = 45 ∨ c = 95
     ·rw [if_pos h, h4 hl hd h]
     ·rw [if_neg h]
      obtain ⟨h1, h2⟩ := h0 hl hd h
      split
      ·rw [h1]
      ·rw [h2]
theorem Sp.bits_tab : (∀ k : Fin 5, Go.bits .and .u8 (k : Nat) 0 = 0) ∧ Go.bits .and .u8 5 1 = 1 ∧ Go.bits .and .u8 6 1 = 0 ∧ Go.bits .and .u8 4 1 = 0 ∧ Go.bits .and .u8 8 1 = 0 ∧ Go.bits .and .u8 0 1 = 0
  ∧ Go.bits .and .u8 5 2 = 0 ∧ Go.bits .and .u8 6 2 = 2 ∧ Go.bits .and .u8 4 2 = 0 ∧ Go.bits .and .u8 8 2 = 0 ∧ Go.bits .and .u8 0 2 = 0
  ∧ Go.bits .and .u8 5 3 = 1 ∧ Go.bits .and .u8 6 3 = 2 ∧ Go.bits .and .u8 4 3 = 0 ∧ Go.bits .and .u8 8 3 = 0 ∧ Go.bits .and .u8 0 3 = 0
  ∧ Go.bits .and .u8 5 4 = 4 ∧ Go.bits .and .u8 6 4 = 4 ∧ Go.bits .and .u8 4 4 = 4 ∧ Go.bits .and .u8 8 4 = 0 ∧ Go.bits .and .u8 0 4 = 0 := by decide
theorem Sp.isCl1 (c : Int) : Sp.isCl c 1 = Sp.letter c := by
 have T := Sp.bits_tab
 refine Sp.isCl_of c 1 Sp.letter ?_ ?_ ?_ ?_ <;> intros <;> simp [*]
theorem Sp.isCl2 (c : Int) : Sp.isCl c 2 = Sp.digit c := by
 have T := Sp.bits_tab
 refine Sp.isCl_of c 2 Sp.digit ?_ ?_ ?_ ?_ <;> intros <;> simp [*]
 rename_i h
 unfold Sp.letter Sp.digit at *; simp at *; omega
theorem Sp.isCl4 (c : Int) : Sp.isCl c 4 = Sp.inner c := by
 have T := Sp.bits_tab
 refine Sp.isCl_of c 4 Sp.inner ?_ ?_ ?_ ?_ <;> intros <;> simp [Sp.inner, *]
 omega
theorem Sp.isCl3 (c : Int) : Sp.isCl c 3 = Sp.varC c := by
 have T := Sp.bits_tab
 refine Sp.isCl_of c 3 Sp.varC ?_ ?_ ?_ ?_ <;> intros <;> simp [Sp.varC, *]
theorem Sp.every2 (s : ByteArray) : Sp.every s 2 = Sp.allB Sp.digit s := by unfold Sp.every; congr 1; funext c; exact Sp.isCl2 c
theorem Sp.every3 (s : ByteArray) : Sp.every s 3 = Sp.allB Sp.varC s := by unfold Sp.every; congr 1; funext c; exact Sp.isCl3 c
theorem Sp.every4 (s : ByteArray) : Sp.every s 4 = Sp.allB Sp.inner s := by unfold Sp.every; congr 1; funext c; exact Sp.isCl4 c
theorem Sp.byte_one (s : ByteArray) (x : UInt8) : s.size = 1 ∧ byteAt s 0 = (x.toNat : Int) ↔ s = (⟨#[x]⟩ : ByteArray) := by
 cases s with
 | mk a =>
   cases a with
   | mk l =>
     constructor
     ·rintro ⟨h1, h2⟩
      match l, h1 with
      | [y], _ =>
        have : y = x := by
         have h3 : (y.toNat : Int) = (x.toNat : Int) := h2
         exact UInt8.toNat_inj.mp (by omega)
        rw [this]
     ·intro h; cases h; exact ⟨rfl, rfl⟩
theorem Sp.byte_cut (s : ByteArray) (x : UInt8) : (decide (((⟨#[x]⟩ : ByteArray).size : Int) ≤ s.size) && decide (s.extract 0 (⟨#[x]⟩ : ByteArray).size = (⟨#[x]⟩ : ByteArray))) = (!decide (s = ByteArray.empty) && decide (byteAt s 0 = (x.toNat : Int))) := by
 rw [Bool.eq_iff_iff]
 simp only [Bool.and_eq_true, Bool.or_eq_true, Bool.not_eq_true', Bool.or_eq_false_iff, Bool.and_eq_false_iff, Bool.not_eq_false', decide_eq_true_eq, decide_eq_false_iff_not, mk_empty]
 have e1 : (⟨#[x]⟩ : ByteArray).size = 1 := rfl
 rw [e1, ← Sp.byte_one]
 have hb : 0 < s.size → byteAt (s.extract 0 1) 0 = byteAt s 0 := by
  intro h
  cases s with
  | mk a =>
    cases a with
    | mk l =>
      match l, h with
      | y :: l', _ => 
        simp only [byteAt]
        have : (ByteArray.extract ⟨⟨y :: l'⟩⟩ 0 1).data = #[y] := by rw [ByteArray.data_extract]; simp
        rw [this]; rfl
 have hs : (s.extract 0 1).size = min 1 s.size := by rw [ByteArray.size_extract]; omega
 constructor
 ·rintro ⟨h1, h2, h3⟩
  rw [hb (by omega)] at h3
  refine ⟨fun h => ?_, h3⟩
  rw [h] at h1; simp at h1
 ·rintro ⟨h1, h2⟩
  have := size_pos h1
  refine ⟨by omega, by omega, ?_⟩
  rw [hb this, h2]
theorem stringslite_CutPrefix.main (s p : ByteArray) : stringslite_CutPrefix.t s p := by
 rintro b hb
 unfold Sp.cutP
 rw [hb]
 cases b with
 | false => simp
 | true =>
   simp only [Bool.not_true, ifB_false]
   simp only [Bool.and_eq_true, Bool.or_eq_true, Bool.not_eq_true', Bool.or_eq_false_iff, Bool.and_eq_false_iff, Bool.not_eq_false', decide_eq_true_eq, decide_eq_false_iff_not, mk_empty] at hb
   refine fun h => ⟨⟨by omega, hb.1, by omega⟩, ?_⟩
   simp
theorem stringslite_CutPrefix.ok (W : World) : CtrOK Go.Proofs.Tryz.prog W 137 stringslite_CutPrefix.C := by
 refine funOK (Γ := lookC [(142, stringslite_HasPrefix.C)]) (lookC_ok (fun p hp => by
  simp only [List.mem_cons, List.not_mem_nil, or_false] at hp
  subst hp; exact stringslite_HasPrefix.ok W)) (Λ := fun a_ => match a_ with | (s, p) => (fun _ => none)) (Λr := fun a_ => match a_ with | (s, p) => (fun _ => none)) ?_
 intro a ha
 obtain ⟨s, p⟩ := a
 refine Eq.mpr ?_ (@stringslite_CutPrefix.main s p)
 kernel_rfl
theorem strings_CutPrefix.main (s p : ByteArray) : strings_CutPrefix.t s p := by
 rintro s1 b h; exact h
theorem strings_CutPrefix.ok (W : World) : CtrOK Go.Proofs.Tryz.prog W 122 strings_CutPrefix.C := by
 refine funOK (Γ := lookC [(137, stringslite_CutPrefix.C)]) (lookC_ok (fun p hp => by
  simp only [List.mem_cons, List.not_mem_nil, or_false] at hp
  subst hp; exact stringslite_CutPrefix.ok W)) (Λ := fun a_ => match a_ with | (s, p) => (fun _ => none)) (Λr := fun a_ => match a_ with | (s, p) => (fun _ => none)) ?_
 intro a ha
 obtain ⟨s, p⟩ := a
 refine Eq.mpr ?_ (@strings_CutPrefix.main s p)
 kernel_rfl
theorem term_identifier.main (s : ByteArray) (most : Int) : term_identifier.t s most := by
 refine ⟨fun h => ?_, ?_⟩
 ·simp only [Bool.and_eq_true, Bool.or_eq_true, Bool.not_eq_true', Bool.or_eq_false_iff, Bool.and_eq_false_iff, Bool.not_eq_false', decide_eq_true_eq, decide_eq_false_iff_not, mk_empty] at h
  have := size_pos h.1
  omega
 ·rw [Sp.isCl1, Sp.every4]; rfl
theorem term_identifier.ok (W : World) : CtrOK Go.Proofs.Tryz.prog W 95 term_identifier.C := by
 refine funOK (Γ := lookC [(99, term_every.C), (120, term_is.C)]) (lookC_ok (fun p hp => by
  simp only [List.mem_cons, List.not_mem_nil, or_false] at hp
  rcases hp with rfl | rfl
  ·exact term_every.ok W
  ·exact term_is.ok W)) (Λ := fun a_ => match a_ with | (s, most) => (fun _ => none)) (Λr := fun a_ => match a_ with | (s, most) => (fun _ => none)) ?_
 intro a ha
 obtain ⟨s, most⟩ := a
 refine Eq.mpr ?_ (@term_identifier.main s most)
 kernel_rfl
theorem term_isNumber.main (s : ByteArray) : term_isNumber.t s := by
 rintro s1 b h
 rw [Sp.every2, mk_empty]
 have h1 : ∀ s : ByteArray, ¬ s = ByteArray.empty → 0 < s.size := fun s => size_pos
 have h2 := Sp.byte_one s 48
 unfold Sp.cutP at h
 rw [Sp.byte_cut s 45] at h
 have hn : Sp.number s = (decide (s = ⟨#[48]⟩) || (Sp.allB Sp.digit s1 && !decide (s1 = ByteArray.empty) && decide ((s1.size : Int) ≤ 500) && !decide (byteAt s1 0 = 48))) ∧ (b = true → byteAt s 0 = 45) ∧ (b = false → s1 = s) := by
  unfold Sp.number
  have e45 : ((45 : UInt8).toNat : Int) = 45 := rfl
  rw [e45] at h
  split at h
  ·rename_i hc
   rw [if_pos hc]
   simp only [Prod.mk.injEq] at h
   obtain ⟨rfl, rfl⟩ := h
   simp only [Bool.and_eq_true, Bool.or_eq_true, Bool.not_eq_true', Bool.or_eq_false_iff, Bool.and_eq_false_iff, Bool.not_eq_false', decide_eq_true_eq, decide_eq_false_iff_not, mk_empty] at hc
   refine ⟨rfl, fun _ => hc.2, fun h => by cases h⟩
  ·rename_i hc
   rw [if_neg hc]
   simp only [Prod.mk.injEq] at h
   obtain ⟨rfl, rfl⟩ := h
   exact ⟨rfl, fun h => (by cases h), fun _ => rfl⟩
 obtain ⟨hn, hb1, hb2⟩ := hn
 rw [hn]
 have e48 : ((48 : UInt8).toNat : Int) = 48 := rfl
 rw [e48] at h2
 have d48 : Sp.allB Sp.digit ⟨#[48]⟩ = true := by decide
 refine ifB_of (fun hc => ?_) fun hc => ?_
 ·simp only [Bool.and_eq_true, Bool.or_eq_true, Bool.not_eq_true', Bool.or_eq_false_iff, Bool.and_eq_false_iff, Bool.not_eq_false', decide_eq_true_eq, decide_eq_false_iff_not, mk_empty] at hc
  have : ¬ s = ⟨#[48]⟩ := by
   intro hs
   have h3 := h2.2 hs
   have : b = false := by cases b with | false => rfl | true => have := hb1 rfl; omega
   have := hb2 this
   subst this
   rcases hc with (hc | hc) | hc
   ·rw [hc] at h3; simp at h3
   ·omega
   ·rw [hs, d48] at hc; cases hc
  rw [decide_eq_false this]
  rcases hc with (hc | hc) | hc
  ·simp [hc]
  ·rw [decide_eq_false (show ¬ ((s1.size : Int) ≤ 500) by omega)]; simp
  ·rw [hc]; simp
 ·simp only [Bool.and_eq_true, Bool.or_eq_true, Bool.not_eq_true', Bool.or_eq_false_iff, Bool.and_eq_false_iff, Bool.not_eq_false', decide_eq_true_eq, decide_eq_false_iff_not, mk_empty] at hc
  have h3 := h1 s1 hc.1.1
  refine ⟨by omega, ?_⟩
  rw [hc.2, decide_eq_false hc.1.1, decide_eq_true (show (s1.size : Int) ≤ 500 by omega), Int.toNat_zero]
  by_cases hs : s = ⟨#[48]⟩
  ·have h4 := h2.2 hs
   have : b = false := by cases b with | false => rfl | true => have := hb1 rfl; omega
   have h5 := hb2 this
   subst h5 this
   rw [decide_eq_true hs, decide_eq_true (show (s1.size : Int) = 1 by omega)]; simp
  ·rw [decide_eq_false hs]
   have : decide ((s1.size : Int) = 1) = true → b = false → byteAt s1 0 ≠ 48 := by
    intro h5 h6 h7
    have := hb2 h6; subst this
    simp only [decide_eq_true_eq] at h5
    exact hs (h2.1 ⟨by omega, h7⟩)
   cases hq : decide ((s1.size : Int) = 1) <;> cases hb : b <;> simp
   exact this hq hb
theorem term_isNumber.ok (W : World) : CtrOK Go.Proofs.Tryz.prog W 98 term_isNumber.C := by
 refine funOK (Γ := lookC [(99, term_every.C), (122, strings_CutPrefix.C)]) (lookC_ok (fun p hp => by
  simp only [List.mem_cons, List.not_mem_nil, or_false] at hp
  rcases hp with rfl | rfl
  ·exact term_every.ok W
  ·exact strings_CutPrefix.ok W)) (Λ := fun a_ => match a_ with | s => (fun _ => none)) (Λr := fun a_ => match a_ with | s => (fun _ => none)) ?_
 intro a ha
 refine Eq.mpr ?_ (@term_isNumber.main a)
 kernel_rfl
theorem term_right.main (t : Tm) : term_right.t t := by
 unfold term_right.t
 simp only [forall_eq']
 simp only [Sp.every3, mk_empty]
 refine ifD (fun h4 => ?_) fun h4 => ?_
 ·simp [Sp.right, h4]
 refine ifD (fun h8 => ?_) fun h8 => ?_
 ·simp [Sp.right, h8]
 refine fun _ => ifD (fun hk => ?_) fun hk => ?_
 ·unfold Sp.right; rw [if_pos ⟨h4, h8, by omega⟩]
 have hn : ¬ (t.kind ≠ 4 ∧ t.kind ≠ 8 ∧ 0 < t.kids.length) := by omega
 have ev : Sp.var t.text = ((!decide (t.text = ByteArray.empty)) && decide ((t.text.size : Int) ≤ 40) && Sp.allB Sp.varC t.text) := by
  unfold Sp.var; cases decide (t.text = ByteArray.empty) <;> cases decide ((t.text.size : Int) ≤ 40) <;> simp
 unfold Sp.right
 rw [if_neg hn]
 refine ifD (fun h1 => fun _ => by rw [if_pos h1]) fun h1 => ?_
 rw [if_neg h1]
 refine ifD (fun h1 => ?_) fun h1 => ?_
 ·rw [if_pos h1, Bool.not_not, Sp.word]; cases decide (t.text = ByteArray.empty) <;> cases decide ((t.text.size : Int) ≤ 60) <;> simp
 rw [if_neg h1]
 refine ifD (fun h1 => by rw [if_pos h1]) fun h1 => ?_
 rw [if_neg h1, if_neg h4, ← ev]
 simp only [ifB_iff]; simp only [Bool.and_eq_true, Bool.or_eq_true, Bool.not_eq_true', Bool.or_eq_false_iff, Bool.and_eq_false_iff, Bool.not_eq_false', decide_eq_true_eq, decide_eq_false_iff_not, mk_empty]
 by_cases h5 : t.kind = 5
 ·simp [h5]
 by_cases h6 : t.kind = 6
 ·simp [h6]
 by_cases h7 : t.kind = 7
 ·simp [h7]
 ·simp [h5, h6, h7, h8]
theorem term_right.ok (W : World) : CtrOK Go.Proofs.Tryz.prog W 65 term_right.C := by
 refine funOK (Γ := lookC [(95, term_identifier.C), (96, strings_ContainsFunc__r1.C), (98, term_isNumber.C), (99, term_every.C)]) (lookC_ok (fun p hp => by
  simp only [List.mem_cons, List.not_mem_nil, or_false] at hp
  rcases hp with rfl | rfl | rfl | rfl
  ·exact term_identifier.ok W
  ·exact strings_ContainsFunc__r1.ok W
  ·exact term_isNumber.ok W
  ·exact term_every.ok W)) (Λ := fun a_ => match a_ with | t => (fun _ => none)) (Λr := fun a_ => match a_ with | t => (fun _ => none)) ?_
 intro a ha
 refine Eq.mpr ?_ (@term_right.main a)
 kernel_rfl
theorem term_IsSymbol.main (t : Tm) : term_IsSymbol.t t := rfl
theorem term_IsSymbol.ok (W : World) : CtrOK Go.Proofs.Tryz.prog W 89 term_IsSymbol.C := by
 refine funOK (Γ := lookC []) (lookC_ok (fun p hp => by cases hp)) (Λ := fun a_ => match a_ with | t => (fun _ => none)) (Λr := fun a_ => match a_ with | t => (fun _ => none)) ?_
 intro a ha
 refine Eq.mpr ?_ (@term_IsSymbol.main a)
 kernel_rfl
theorem term_depth.l0_ok (l : List Tm) (ha : Sp.okL l) : term_depth.l0 l := by
 rintro l1 n d i ⟨e, e2, h1, h2, h3, h4⟩
 subst l1 n
 refine ifD (fun h => ?_) fun h => ?_
 ·have hi : i.toNat < l.length := by omega
  have hk := Sp.nodesL_mem (nth_mem (d := default) hi)
  have hd := Sp.depthL_le (nth default l i).kids
  have e := nth_drop (d := default) hi
  have hT := Sp.depthT_eq (nth default l i)
  have e1 : (i + 1).toNat = i.toNat + 1 := by omega
  have hl := Sp.nodesL_len l
  rw [e]
  simp only [Sp.depthL, e1]
  unfold Sp.okL at *
  refine ⟨by omega, ifB_of (fun hb => ?_) fun hb => ?_⟩
  ·simp only [Bool.and_eq_true, Bool.or_eq_true, Bool.not_eq_true', Bool.or_eq_false_iff, Bool.and_eq_false_iff, Bool.not_eq_false', decide_eq_true_eq, decide_eq_false_iff_not, mk_empty] at hb
   rw [if_pos (by omega)] at hT
   refine ⟨⟨by omega, by omega⟩, ?_⟩
   rintro d' rfl
   refine ⟨inR64 (by omega), inR64 (by omega), ⟨by trivial, by trivial, by omega, by omega, by omega, by omega⟩, by omega, ?_⟩
   simp only [hT, LOut.brk.injEq, Prod.mk.injEq]
   refine ⟨?_, trivial⟩
   rw [Int.max_assoc]; omega
  ·simp only [Bool.and_eq_true, Bool.or_eq_true, Bool.not_eq_true', Bool.or_eq_false_iff, Bool.and_eq_false_iff, Bool.not_eq_false', decide_eq_true_eq, decide_eq_false_iff_not, mk_empty] at hb
   rw [if_neg (by omega)] at hT
   refine ⟨inR64 (by omega), ⟨by trivial, by trivial, by omega, by omega, by omega, by omega⟩, by omega, ?_⟩
   simp only [hT, LOut.brk.injEq, Prod.mk.injEq]
   refine ⟨?_, trivial⟩
   have : (nth default l i).kids = [] := List.length_eq_zero_iff.mp (by omega)
   rw [this]; simp only [Sp.depthL]; omega
 ·rw [List.drop_eq_nil_of_le (by omega)]
  simp only [Sp.depthL, LOut.brk.injEq, Prod.mk.injEq]
  omega
theorem term_depth.main (l : List Tm) (ha : Sp.okL l) : term_depth.t l := by
 refine fun h => ⟨⟨rfl, rfl, by omega, by omega, by omega, by omega⟩, term_depth.l0_ok l ha, fun d i h => ?_⟩
 simp only [LOut.brk.injEq, Prod.mk.injEq, Int.toNat_zero, List.drop_zero] at h ⊢
 omega
theorem term_depth.ok (W : World) : CtrOK Go.Proofs.Tryz.prog W 64 term_depth.C := by
 refine funOK_rec (fun (l : (List Tm)) => Sp.nodesL l) (l := []) (fun p hp => by cases hp) (Λ := fun a_ => match a_ with | l => (term_depth.Λ l)) (Λr := fun a_ => match a_ with | l => (fun _ => none)) ?_
 intro a ha
 refine Eq.mpr ?_ (@term_depth.main a ha)
 kernel_rfl
end Go.AL
namespace Go.AL
set_option linter.unusedVariables false
end Go.AL
namespace Sp
open Go.AL
def formP (most : Int) (t : Tm) : Bool := right t && decide (t.kind ≤ most)
end Sp
namespace Go.AL
def term_all.C : Ctr := TA.C
def term_check.L0 : LD := { cs := [], cts := [], pts := [(4, (.loc 1 0)), (5, (.loc 2 0))], vs := [], os := [(1, .plain, [none]), (2, .plain, [none])], vts := [.int .i64, .int .i64], own := [false, false], ro := [0, 1, 3, 4, 5, 7, 8], nx := 100 }
def term_check.L2 : LD := { cs := [], cts := [], pts := [(3, (.loc 0 0)), (4, (.loc 1 0))], vs := [], os := [(1, .plain, [none]), (0, .plain, [none])], vts := [.int .i64, .int .i64], own := [false, false], ro := [0, 1, 3, 4, 5, 7, 8, 14, 15, 16, 17, 18], nx := 200 }
def term_check.Ρ (l : (List Tm)) (most : Int) : Nat → Option (RLoop (ElT [.int .i64])) := fun id =>
 if id = 0 then some (mkRLoop term_check.L0 (.nm 0)
  (fun (c_ : Unit) (xs : List Tm) (s_ : Int × Int) => match c_, s_ with | (), (e, n) => 0 ≤ n ∧ n ≤ 4000)
  (fun (c_ : Unit) (xs : List Tm) (s_ : Int × Int) => match c_, s_ with | (), (e, n) => if 4000 < n + xs.length then .ret 5 else .brk (e, n + xs.length)) [] true) else
 if id = 2 then some (mkRLoop term_check.L2 (.nm 0)
  (fun (c_ : Unit) (xs : List Tm) (s_ : Int × Int) => match c_, s_ with | (), (e, k) => k = most)
  (fun (c_ : Unit) (xs : List Tm) (s_ : Int × Int) => match c_, s_ with | (), (e, k) => if xs.all (Sp.formP most) = true then .brk (e, k) else .ret 2) [] true) else
 none
def term_check.C : Ctr := pureCtr [.lst (.nm 0), .int .i64] [.int .i64] (some (fun (a_ : (List Tm) × Int) => match a_ with | (l, most) => Sp.okL l)) (fun (a_ : (List Tm) × Int) => match a_ with | (l, most) => (Sp.wrong l most))
def term_Value.C : Ctr := pureCtr [.lst (.nm 0)] [.int .i64] (some (fun (l : (List Tm)) => Sp.okL l)) (fun (l : (List Tm)) => (Sp.wrong l 4))
end Go.AL
namespace Go.AL
set_option linter.unusedVariables false
set_option maxRecDepth 10000
def term_check.l0 : Prop :=
 ∀ x : Tm, ∀ l1 : List Tm, ∀ i i1 : Int, 0≤i1∧i1≤4000→inR .i64 (i1 + 1)∧ifB (decide (4000 < i1 + 1)) ((ite (4000 < i1 + (↑(List.length (x :: l1)) : Int)) (LOut.ret 5) (LOut.brk (i, i1 + (↑(List.length (x :: l1)) : Int))) : LOut _ Int)=LOut.ret 5) ((0≤i1 + 1∧i1 + 1≤4000)∧(ite (4000 < i1 + 1 + (↑(List.length l1) : Int)) (LOut.ret 5) (LOut.brk (i, i1 + 1 + (↑(List.length l1) : Int))) : LOut _ Int)=ite (4000 < i1 + (↑(List.length (x :: l1)) : Int)) (LOut.ret 5) (LOut.brk (i, i1 + (↑(List.length (x :: l1)) : Int))))
def term_check.l2 (most : Int) : Prop :=
 ∀ x : Tm, ∀ l1 : List Tm, ∀ i3 i4 : Int, i4=most→ifB (decide (i4 < Tm.kind x) || (!(Sp.right (Tm.mk (Tm.kind x) (Tm.text x) (Tm.kids x))))) ((ite (List.all (x :: l1) (Sp.formP most)=true) (LOut.brk (i3, i4)) (LOut.ret 2) : LOut _ Int)=LOut.ret 2) (i4=most∧(ite (List.all l1 (Sp.formP most)=true) (LOut.brk (i3, i4)) (LOut.ret 2) : LOut _ Int)=ite (List.all (x :: l1) (Sp.formP most)=true) (LOut.brk (i3, i4)) (LOut.ret 2))
def term_check.t (l : (List Tm)) (most : Int) : Prop :=
 ((0 : Int)≤0∧(0 : Int)≤4000)∧(∀ i i1 : Int, 0≤i1∧i1≤4000→(ite (4000 < i1 + (↑(List.length ([] : List Tm)) : Int)) (LOut.ret 5) (LOut.brk (i, i1 + (↑(List.length ([] : List Tm)) : Int))) : LOut _ Int)=LOut.brk (i, i1))∧term_check.l0∧(∀ i i1 : Int, (ite (4000 < 0 + (↑(List.length (Sp.flatL l)) : Int)) (LOut.ret 5) (LOut.brk (0, 0 + (↑(List.length (Sp.flatL l)) : Int))) : LOut (Int × Int) Int)=LOut.brk (i, i1)→Sp.okL l∧∀ i2 : Int, (↑(Sp.depthL l) : Int)=i2→ifB (decide (100 < i2)) (Sp.wrong l most=6) (most=most∧(∀ i3 i4 : Int, i4=most→(LOut.brk (i3, i4) : LOut _ Int)=LOut.brk (i3, i4))∧term_check.l2 most∧(∀ i3 i4 : Int, (ite (List.all (Sp.flatL l) (Sp.formP most)=true) (LOut.brk (i, most)) (LOut.ret 2) : LOut _ Int)=LOut.brk (i3, i4)→Sp.wrong l most=0)∧∀ i3 : Int, (ite (List.all (Sp.flatL l) (Sp.formP most)=true) (LOut.brk (i, most)) (LOut.ret 2) : LOut _ Int)=LOut.ret i3→Sp.wrong l most=i3))∧∀ i : Int, (ite (4000 < 0 + (↑(List.length (Sp.flatL l)) : Int)) (LOut.ret 5) (LOut.brk (0, 0 + (↑(List.length (Sp.flatL l)) : Int))) : LOut (Int × Int) Int)=LOut.ret i→Sp.wrong l most=i
def term_Value.t (l : (List Tm)) : Prop :=
 Sp.okL l∧∀ i : Int, Sp.wrong l 4=i→Sp.wrong l 4=i
end Go.AL
namespace Go.AL
set_option linter.unusedVariables false
set_option linter.unusedSimpArgs false
set_option maxRecDepth 10000
attribute [local irreducible] wpF wpFX wpM wpFM
theorem term_all.ok (W : World) : CtrOK Go.Proofs.Tryz.prog W 63 term_all.C := TA.ok (f := 94) (g := 93) (by kernel_rfl) (by kernel_rfl) (by kernel_rfl)
theorem Sp.flat_nodes : ∀ l : List Tm, (Sp.flatL l).length = Sp.nodesL l
 | [] => rfl
 | .mk k s ks :: l => by
   simp only [Sp.flatL, Sp.flatT, Sp.nodesL, Sp.nodesT, List.length_append, List.length_cons, Sp.flat_nodes ks, Sp.flat_nodes l]
theorem Sp.flat_form (most : Int) : ∀ l : List Tm, (Sp.flatL l).all (Sp.formP most) = Sp.formL l most
 | [] => rfl
 | .mk k s ks :: l => by
   simp only [Sp.flatL, Sp.flatT, Sp.formL, Sp.formT, List.all_append, List.all_cons, Sp.flat_form most ks, Sp.flat_form most l, Sp.formP, Tm.kind, Bool.and_assoc]
   rfl
theorem term_check.l0_ok : term_check.l0 := by
 rintro t l1 e n ⟨h1, h2⟩
 refine ⟨inR64 (by omega), ifD (fun h => ?_) fun h => ?_⟩
 ·rw [if_pos]; simp only [List.length_cons]; omega
 ·refine ⟨⟨by omega, by omega⟩, ?_⟩
  have : n + 1 + (l1.length : Int) = n + ((t :: l1).length : Int) := by simp only [List.length_cons]; omega
  rw [this]
theorem term_check.l2_ok (most : Int) : term_check.l2 most := by
 rintro t l1 e n rfl
 have hp : Sp.formP n t = (Sp.right t && decide (t.kind ≤ n)) := rfl
 rw [Tm.eta]
 refine ifB_of (fun h => ?_) fun h => ?_
 ·simp only [Bool.and_eq_true, Bool.or_eq_true, Bool.not_eq_true', Bool.or_eq_false_iff, Bool.and_eq_false_iff, Bool.not_eq_false', decide_eq_true_eq, decide_eq_false_iff_not, mk_empty] at h
  rw [if_neg]
  simp only [List.all_cons, hp]; simp only [Bool.and_eq_true, Bool.or_eq_true, Bool.not_eq_true', Bool.or_eq_false_iff, Bool.and_eq_false_iff, Bool.not_eq_false', decide_eq_true_eq, decide_eq_false_iff_not, mk_empty]
  rintro ⟨⟨h1, h2⟩, h3⟩
  rcases h with h | h
  ·omega
  ·rw [h1] at h; cases h
 ·simp only [Bool.and_eq_true, Bool.or_eq_true, Bool.not_eq_true', Bool.or_eq_false_iff, Bool.and_eq_false_iff, Bool.not_eq_false', decide_eq_true_eq, decide_eq_false_iff_not, mk_empty] at h
  refine ⟨by trivial, ?_⟩
  have : Sp.formP n t = true := by rw [hp]; simp only [Bool.and_eq_true, Bool.or_eq_true, Bool.not_eq_true', Bool.or_eq_false_iff, Bool.and_eq_false_iff, Bool.not_eq_false', decide_eq_true_eq, decide_eq_false_iff_not, mk_empty]; exact ⟨h.2, by omega⟩
  simp only [List.all_cons, this, Bool.true_and]
theorem term_check.main (l : List Tm) (most : Int) (ha : Sp.okL l) : term_check.t l most := by
 refine ⟨by omega, ?_, term_check.l0_ok, ?_, ?_⟩
 ·rintro e n ⟨h1, h2⟩
  rw [if_neg (by simp; omega)]; simp
 ·intro e n h
  obtain ⟨h1, h2⟩ := ite_brk' h
  refine ⟨ha, ?_⟩
  rintro d rfl
  have hn : ¬ 4000 < Sp.nodesL l := by rw [← Sp.flat_nodes]; omega
  refine ifD (fun h => ?_) fun h => ?_
  ·simp only [Sp.wrong]; rw [if_neg hn, if_pos (by omega)]
  ·have hd : ¬ 100 < Sp.depthL l := by omega
   refine ⟨rfl, fun a b h3 => rfl, term_check.l2_ok most, fun a b h3 => ?_, fun a h3 => ?_⟩
   ·obtain ⟨h3, _⟩ := ite_brk h3
    rw [Sp.flat_form] at h3
    simp only [Sp.wrong]; rw [if_neg hn, if_neg hd, if_pos h3]
   ·obtain ⟨h3, h4⟩ := ite_ret h3
    rw [Sp.flat_form] at h3
    simp only [Sp.wrong]; rw [if_neg hn, if_neg hd, if_neg h3, h4]
 ·intro e h
  obtain ⟨h1, h2⟩ := ite_ret' h
  have hn : 4000 < Sp.nodesL l := by rw [← Sp.flat_nodes]; omega
  simp only [Sp.wrong]; rw [if_pos hn, h2]
theorem term_check.ok (W : World) : CtrOK Go.Proofs.Tryz.prog W 31 term_check.C := by
 refine funOK (Γ := lookC [(63, term_all.C), (64, term_depth.C), (65, term_right.C)]) (lookC_ok (fun p hp => by
  simp only [List.mem_cons, List.not_mem_nil, or_false] at hp
  rcases hp with rfl | rfl | rfl
  ·exact term_all.ok W
  ·exact term_depth.ok W
  ·exact term_right.ok W)) (Λ := fun a_ => match a_ with | (l, most) => (fun _ => none)) (Λr := fun a_ => match a_ with | (l, most) => (term_check.Ρ l most)) ?_
 intro a ha
 obtain ⟨l, most⟩ := a
 refine Eq.mpr ?_ (@term_check.main l most ha)
 kernel_rfl
theorem term_Value.main (l : List Tm) (ha : Sp.okL l) : term_Value.t l := ⟨ha, fun i h => h⟩
theorem term_Value.ok (W : World) : CtrOK Go.Proofs.Tryz.prog W 13 term_Value.C := by
 refine funOK (Γ := lookC [(31, term_check.C)]) (lookC_ok (fun p hp => by
  simp only [List.mem_cons, List.not_mem_nil, or_false] at hp
  subst hp; exact term_check.ok W)) (Λ := fun a_ => match a_ with | l => (fun _ => none)) (Λr := fun a_ => match a_ with | l => (fun _ => none)) ?_
 intro a ha
 refine Eq.mpr ?_ (@term_Value.main a ha)
 kernel_rfl
end Go.AL
namespace Go.AL
set_option linter.unusedVariables false
end Go.AL
namespace Sp
open Go.AL
end Sp
namespace Go.AL
def term_Copy.C : Ctr := pureCtr [.lst (.nm 0)] [.lst (.nm 0)] (some fun l => Sp.okL l) (fun l => l)
end Go.AL
namespace Go.AL
set_option linter.unusedVariables false
set_option maxRecDepth 10000
end Go.AL
namespace Go.AL
set_option linter.unusedVariables false
set_option linter.unusedSimpArgs false
set_option maxRecDepth 10000
attribute [local irreducible] wpF wpFX wpM wpFM
theorem term_Copy.ok (W : World) : CtrOK Go.Proofs.Tryz.prog W 71 term_Copy.C :=
 TC.ok (f := 71) (g := 100) (by kernel_rfl) (by kernel_rfl) fun l hl => by rw [Sp.flat_nodes]; unfold Sp.okL at hl; omega
end Go.AL
