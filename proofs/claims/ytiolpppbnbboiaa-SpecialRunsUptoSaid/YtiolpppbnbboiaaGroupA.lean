/- Functions of the program: what they return, and that they do. -/
import Derived.Test.YtiolpppbnbboiaaEvalC
import Derived.Test.YtiolpppbnbboiaaProg
import Derived.KernelRfl

namespace Go.AL
set_option linter.unusedVariables false
end Go.AL
namespace Sp
open Go.AL
def letter (c : Int) : Bool := (decide (97 ≤ c) && decide (c ≤ 122)) || (decide (65 ≤ c) && decide (c ≤ 90))
def digit (c : Int) : Bool := decide (48 ≤ c) && decide (c ≤ 57)
def inner (c : Int) : Bool := letter c || digit c || decide (c = 45) || decide (c = 95)
/-- All bytes from the i-th one on. -/
def allFrom (p : Int → Bool) (s : ByteArray) (i : Nat) : Bool := (List.range (s.size - i)).all fun k => p (byteAt s (i + k))
def allB (p : Int → Bool) (s : ByteArray) : Bool := allFrom p s 0
theorem allFrom_step {p : Int → Bool} {s : ByteArray} {i : Nat} (h : i < s.size) : allFrom p s i = (p (byteAt s i) && allFrom p s (i + 1)) := by
  unfold allFrom
  rw [show s.size - i = (s.size - (i + 1)) + 1 by omega, List.range_succ_eq_map]
  simp only [List.all_cons, Nat.add_zero, List.all_map]
  congr 2
  funext k
  simp only [Function.comp]
  rw [show i + k.succ = i + 1 + k by omega]
theorem allFrom_end {p : Int → Bool} {s : ByteArray} {i : Nat} (h : s.size ≤ i) : allFrom p s i = true := by
  unfold allFrom
  rw [show s.size - i = 0 by omega]; rfl
def name (s : ByteArray) (most : Int) : Bool := !decide (s = ByteArray.empty) && decide ((s.size : Int) ≤ most) && letter (byteAt s 0) && allB inner s
def wordC (c : Int) : Bool := !(decide (c < 32) || decide (126 < c))
def word (s : ByteArray) : Bool := allB wordC s && !decide (s = ByteArray.empty) && decide ((s.size : Int) ≤ 60)
end Sp
namespace Go.AL

def r01_Letter.C : Ctr := pureCtr [.int .u8] [.bool] none (fun (b : Int) => (Sp.letter b))
def r01_Digit.C : Ctr := pureCtr [.int .u8] [.bool] none (fun (b : Int) => (Sp.digit b))
def r01_Inner.C : Ctr := pureCtr [.int .u8] [.bool] none (fun (b : Int) => (Sp.inner b))
def r01_IsName.L0 : LD := { cs := [0], cts := [.str], pts := [], vs := [5], os := [], vts := [.int .i64], own := [false], ro := [0, 1, 6, 7, 8, 9, 10, 11, 12, 13, 14, 15, 16, 17, 18, 19], nx := 100 }
def r01_IsName.Λ (s : ByteArray) (most : Int) : Nat → Option (Loop (ElT [.bool])) := fun id =>
  if id = 0 then some (mkLoop r01_IsName.L0
    (fun (c_ : ByteArray) (s_ : Int) => match c_, s_ with | c_s, i => c_s = s ∧ 0 ≤ i ∧ i ≤ s.size)
    (fun (c_ : ByteArray) (s_ : Int) => match c_, s_ with | c_s, i => (s.size - i : Int).toNat)
    (fun (c_ : ByteArray) (s_ : Int) => match c_, s_ with | c_s, i => if Sp.allFrom Sp.inner s i.toNat then .brk (s.size : Int) else .ret false) [] true) else
  none
def r01_IsName.C : Ctr := pureCtr [.str, .int .i64] [.bool] none (fun (a_ : ByteArray × Int) => match a_ with | (s, most) => (Sp.name s most))
def r01_IsWord.L0 : LD := { cs := [0], cts := [.str], pts := [], vs := [3], os := [], vts := [.int .i64], own := [false], ro := [0], nx := 100 }
def r01_IsWord.Λ (s : ByteArray) : Nat → Option (Loop (ElT [.bool])) := fun id =>
  if id = 0 then some (mkLoop r01_IsWord.L0
    (fun (c_ : ByteArray) (s_ : Int) => match c_, s_ with | c_s, i => c_s = s ∧ 0 ≤ i ∧ i ≤ s.size)
    (fun (c_ : ByteArray) (s_ : Int) => match c_, s_ with | c_s, i => (s.size - i : Int).toNat)
    (fun (c_ : ByteArray) (s_ : Int) => match c_, s_ with | c_s, i => if Sp.allFrom Sp.wordC s i.toNat then .brk (s.size : Int) else .ret false) [] true) else
  none
def r01_IsWord.C : Ctr := pureCtr [.str] [.bool] none (fun (s : ByteArray) => (Sp.word s))
end Go.AL

namespace Go.AL
set_option linter.unusedVariables false
set_option maxRecDepth 10000
def r01_Letter.t (b : Int) : Prop :=
  ((Sp.letter b) = (((decide (97 ≤ b)) && (decide (b ≤ 122))) || ((decide (65 ≤ b)) && (decide (b ≤ 90)))))
theorem r01_Letter.w (b : Int) : wpF Go.Proofs.Try.prog (lookC []) 93 [.int .u8] [.bool] (fun _ => none) (fun _ => none) b (fun r => (Sp.letter b) = r) = r01_Letter.t b := by kernel_rfl
def r01_Digit.t (b : Int) : Prop :=
  ((Sp.digit b) = ((decide (48 ≤ b)) && (decide (b ≤ 57))))
theorem r01_Digit.w (b : Int) : wpF Go.Proofs.Try.prog (lookC []) 94 [.int .u8] [.bool] (fun _ => none) (fun _ => none) b (fun r => (Sp.digit b) = r) = r01_Digit.t b := by kernel_rfl
def r01_Inner.t (b : Int) : Prop :=
  (∀ b1 : Bool, (((Sp.letter b) = b1) → ((Sp.inner b) = (((b1 || (Sp.digit b)) || (decide (b = 45))) || (decide (b = 95))))))
theorem r01_Inner.w (b : Int) : wpF Go.Proofs.Try.prog (lookC [(93, r01_Letter.C), (94, r01_Digit.C)]) 116 [.int .u8] [.bool] (fun _ => none) (fun _ => none) b (fun r => (Sp.inner b) = r) = r01_Inner.t b := by kernel_rfl
def r01_IsName.l0 (s : ByteArray) : Prop :=
  (∀ s1 : ByteArray, (∀ i : Int, (((s1 = s) ∧ ((0 ≤ i) ∧ (i ≤ (↑(ByteArray.size s) : Int)))) → (((ByteArray.size s1) < 9223372036854775808) → (ifB (decide (i < (↑(ByteArray.size s1) : Int))) (((0 ≤ i) ∧ (i < (↑(ByteArray.size s1) : Int))) ∧ (∀ b : Bool, (((Sp.inner (byteAt s1 (Int.toNat i))) = b) → (ifB (!b) (((ite ((Sp.allFrom Sp.inner s (Int.toNat i)) = Bool.true) (LOut.brk (↑(ByteArray.size s) : Int)) (LOut.ret Bool.false)) : (LOut Int Bool)) = (LOut.ret Bool.false)) ((inR Go.IntKind.i64 (i + 1)) ∧ (((s1 = s) ∧ ((0 ≤ (i + 1)) ∧ ((i + 1) ≤ (↑(ByteArray.size s) : Int)))) ∧ (((Int.toNat ((↑(ByteArray.size s) : Int) - (i + 1))) < (Int.toNat ((↑(ByteArray.size s) : Int) - i))) ∧ (((ite ((Sp.allFrom Sp.inner s (Int.toNat (i + 1))) = Bool.true) (LOut.brk (↑(ByteArray.size s) : Int)) (LOut.ret Bool.false)) : (LOut Int Bool)) = (ite ((Sp.allFrom Sp.inner s (Int.toNat i)) = Bool.true) (LOut.brk (↑(ByteArray.size s) : Int)) (LOut.ret Bool.false)))))))))) (((ite ((Sp.allFrom Sp.inner s (Int.toNat i)) = Bool.true) (LOut.brk (↑(ByteArray.size s) : Int)) (LOut.ret Bool.false)) : (LOut Int Bool)) = (LOut.brk i)))))))
def r01_IsName.t (s : ByteArray) (most : Int) : Prop :=
  (((((decide (s = (⟨#[]⟩ : ByteArray))) || (decide (most < (↑(ByteArray.size s) : Int)))) = Bool.false) → (((0 : Int) ≤ 0) ∧ (0 < (↑(ByteArray.size s) : Int)))) ∧ (ifB (((decide (s = (⟨#[]⟩ : ByteArray))) || (decide (most < (↑(ByteArray.size s) : Int)))) || (!(Sp.letter (byteAt s (Int.toNat 0))))) ((Sp.name s most) = Bool.false) (((s = s) ∧ (((0 : Int) ≤ 0) ∧ (0 ≤ (↑(ByteArray.size s) : Int)))) ∧ ((r01_IsName.l0 s) ∧ ((∀ i : Int, ((((ite ((Sp.allFrom Sp.inner s (Int.toNat 0)) = Bool.true) (LOut.brk (↑(ByteArray.size s) : Int)) (LOut.ret Bool.false)) : (LOut Int Bool)) = (LOut.brk i)) → ((Sp.name s most) = Bool.true))) ∧ (∀ b : Bool, ((((ite ((Sp.allFrom Sp.inner s (Int.toNat 0)) = Bool.true) (LOut.brk (↑(ByteArray.size s) : Int)) (LOut.ret Bool.false)) : (LOut Int Bool)) = (LOut.ret b)) → ((Sp.name s most) = b))))))))
theorem r01_IsName.w (s : ByteArray) (most : Int) : wpF Go.Proofs.Try.prog (lookC [(93, r01_Letter.C), (116, r01_Inner.C)]) 108 [.str, .int .i64] [.bool] (r01_IsName.Λ s most) (fun _ => none) (s, most) (fun r => (Sp.name s most) = r) = r01_IsName.t s most := by kernel_rfl
def r01_IsWord.l0 (s : ByteArray) : Prop :=
  (∀ s1 : ByteArray, (∀ i : Int, (((s1 = s) ∧ ((0 ≤ i) ∧ (i ≤ (↑(ByteArray.size s) : Int)))) → (((ByteArray.size s1) < 9223372036854775808) → (ifB (decide (i < (↑(ByteArray.size s1) : Int))) (((0 ≤ i) ∧ (i < (↑(ByteArray.size s1) : Int))) ∧ ((((decide ((byteAt s1 (Int.toNat i)) < 32)) = Bool.false) → ((0 ≤ i) ∧ (i < (↑(ByteArray.size s1) : Int)))) ∧ (ifB ((decide ((byteAt s1 (Int.toNat i)) < 32)) || (decide (126 < (byteAt s1 (Int.toNat i))))) (((ite ((Sp.allFrom Sp.wordC s (Int.toNat i)) = Bool.true) (LOut.brk (↑(ByteArray.size s) : Int)) (LOut.ret Bool.false)) : (LOut Int Bool)) = (LOut.ret Bool.false)) ((inR Go.IntKind.i64 (i + 1)) ∧ (((s1 = s) ∧ ((0 ≤ (i + 1)) ∧ ((i + 1) ≤ (↑(ByteArray.size s) : Int)))) ∧ (((Int.toNat ((↑(ByteArray.size s) : Int) - (i + 1))) < (Int.toNat ((↑(ByteArray.size s) : Int) - i))) ∧ (((ite ((Sp.allFrom Sp.wordC s (Int.toNat (i + 1))) = Bool.true) (LOut.brk (↑(ByteArray.size s) : Int)) (LOut.ret Bool.false)) : (LOut Int Bool)) = (ite ((Sp.allFrom Sp.wordC s (Int.toNat i)) = Bool.true) (LOut.brk (↑(ByteArray.size s) : Int)) (LOut.ret Bool.false))))))))) (((ite ((Sp.allFrom Sp.wordC s (Int.toNat i)) = Bool.true) (LOut.brk (↑(ByteArray.size s) : Int)) (LOut.ret Bool.false)) : (LOut Int Bool)) = (LOut.brk i)))))))
def r01_IsWord.t (s : ByteArray) : Prop :=
  (((s = s) ∧ (((0 : Int) ≤ 0) ∧ (0 ≤ (↑(ByteArray.size s) : Int)))) ∧ ((r01_IsWord.l0 s) ∧ ((∀ i : Int, ((((ite ((Sp.allFrom Sp.wordC s (Int.toNat 0)) = Bool.true) (LOut.brk (↑(ByteArray.size s) : Int)) (LOut.ret Bool.false)) : (LOut Int Bool)) = (LOut.brk i)) → ((Sp.word s) = ((!(decide (s = (⟨#[]⟩ : ByteArray)))) && (decide ((↑(ByteArray.size s) : Int) ≤ 60)))))) ∧ (∀ b : Bool, ((((ite ((Sp.allFrom Sp.wordC s (Int.toNat 0)) = Bool.true) (LOut.brk (↑(ByteArray.size s) : Int)) (LOut.ret Bool.false)) : (LOut Int Bool)) = (LOut.ret b)) → ((Sp.word s) = b))))))
theorem r01_IsWord.w (s : ByteArray) : wpF Go.Proofs.Try.prog (lookC []) 106 [.str] [.bool] (r01_IsWord.Λ s) (fun _ => none) s (fun r => (Sp.word s) = r) = r01_IsWord.t s := by kernel_rfl
end Go.AL

namespace Go.AL
set_option linter.unusedVariables false
set_option linter.unusedSimpArgs false
set_option maxRecDepth 10000
attribute [local irreducible] wpF wpFX wpM
theorem r01_Letter.main (b : Int) : r01_Letter.t b := by
  simp [r01_Letter.t, Sp.letter]
theorem r01_Letter.ok (W : World) : CtrOK Go.Proofs.Try.prog W 93 r01_Letter.C := by
  refine funOK (Γ := lookC []) (lookC_ok (fun p hp => by cases hp)) (Λ := fun a_ => match a_ with | b => (fun _ => none)) (Λr := fun a_ => match a_ with | b => (fun _ => none)) ?_
  intro a ha
  refine Eq.mpr ?_ (@r01_Letter.main a)
  kernel_rfl
theorem r01_Digit.main (b : Int) : r01_Digit.t b := by
  simp [r01_Digit.t, Sp.digit]
theorem r01_Digit.ok (W : World) : CtrOK Go.Proofs.Try.prog W 94 r01_Digit.C := by
  refine funOK (Γ := lookC []) (lookC_ok (fun p hp => by cases hp)) (Λ := fun a_ => match a_ with | b => (fun _ => none)) (Λr := fun a_ => match a_ with | b => (fun _ => none)) ?_
  intro a ha
  refine Eq.mpr ?_ (@r01_Digit.main a)
  kernel_rfl
theorem r01_Inner.main (b : Int) : r01_Inner.t b := by
  simp [r01_Inner.t, Sp.inner]
theorem r01_Inner.ok (W : World) : CtrOK Go.Proofs.Try.prog W 116 r01_Inner.C := by
  refine funOK (Γ := lookC [(93, r01_Letter.C), (94, r01_Digit.C)]) (lookC_ok (fun p hp => by
    simp only [List.mem_cons, List.not_mem_nil, or_false] at hp
    rcases hp with rfl | rfl
    · exact r01_Letter.ok W
    · exact r01_Digit.ok W)) (Λ := fun a_ => match a_ with | b => (fun _ => none)) (Λr := fun a_ => match a_ with | b => (fun _ => none)) ?_
  intro a ha
  refine Eq.mpr ?_ (@r01_Inner.main a)
  kernel_rfl
theorem r01_IsName.l0_ok (s : ByteArray) : r01_IsName.l0 s := by
  rintro _ i ⟨rfl, hi⟩ hs
  refine ifD (fun h => ⟨by omega, fun b hb => ?_⟩) fun h => ?_
  · rw [Sp.allFrom_step (by omega), hb]
    cases b with
    | false => simp
    | true =>
      refine ⟨inR64 (by omega), ⟨rfl, by omega⟩, by omega, ?_⟩
      rw [show (i + 1).toNat = i.toNat + 1 by omega]; simp
  · rw [Sp.allFrom_end (by omega), if_pos rfl]; congr 1; omega
theorem r01_IsName.main (s : ByteArray) (most : Int) : r01_IsName.t s most := by
  refine ⟨fun h => ?_, ifB_of (fun h => ?_) fun h => ⟨⟨rfl, by omega⟩, r01_IsName.l0_ok s, fun i hi => ?_, fun b hb => ?_⟩⟩
  · simp at h; have := size_pos h.1; omega
  · by_cases h0 : s = ByteArray.empty
    · simp [Sp.name, h0]
    · by_cases h1 : most < s.size
      · simp [Sp.name, show ¬ (s.size : Int) ≤ most by omega]
      · simp [h0, h1] at h; simp [Sp.name, h]
  · simp at h
    split at hi
    · rename_i hx; simp only [Int.toNat_zero] at hx; simp [Sp.name, Sp.allB, hx, h]
    · simp at hi
  · split at hb
    · simp at hb
    · rename_i hx; simp only [Int.toNat_zero] at hx; simp at hb; subst hb; simp [Sp.name, Sp.allB, hx]
theorem r01_IsName.ok (W : World) : CtrOK Go.Proofs.Try.prog W 108 r01_IsName.C := by
  refine funOK (Γ := lookC [(93, r01_Letter.C), (116, r01_Inner.C)]) (lookC_ok (fun p hp => by
    simp only [List.mem_cons, List.not_mem_nil, or_false] at hp
    rcases hp with rfl | rfl
    · exact r01_Letter.ok W
    · exact r01_Inner.ok W)) (Λ := fun a_ => match a_ with | (s, most) => (r01_IsName.Λ s most)) (Λr := fun a_ => match a_ with | (s, most) => (fun _ => none)) ?_
  intro a ha
  obtain ⟨s, most⟩ := a
  refine Eq.mpr ?_ (@r01_IsName.main s most)
  kernel_rfl
theorem r01_IsWord.l0_ok (s : ByteArray) : r01_IsWord.l0 s := by
  rintro _ i ⟨rfl, hi⟩ hs
  refine ifD (fun h => ⟨by omega, fun _ => by omega, ?_⟩) fun h => ?_
  · rw [Sp.allFrom_step (by omega)]
    refine ifB_of (fun hb => ?_) fun hb => ⟨inR64 (by omega), ⟨rfl, by omega⟩, by omega, ?_⟩
    · simp only [Sp.wordC, hb]; simp
    · rw [show (i + 1).toNat = i.toNat + 1 by omega]; simp only [Sp.wordC, hb]; simp
  · rw [Sp.allFrom_end (by omega), if_pos rfl]; congr 1; omega
theorem r01_IsWord.main (s : ByteArray) : r01_IsWord.t s := by
  refine ⟨⟨rfl, by omega⟩, r01_IsWord.l0_ok s, fun i hi => ?_, fun b hb => ?_⟩
  · split at hi
    · rename_i h; simp only [Int.toNat_zero] at h; simp [Sp.word, Sp.allB, h]
    · simp at hi
  · split at hb
    · simp at hb
    · rename_i h; simp only [Int.toNat_zero] at h; simp at hb; subst hb; simp [Sp.word, Sp.allB, h]
theorem r01_IsWord.ok (W : World) : CtrOK Go.Proofs.Try.prog W 106 r01_IsWord.C := by
  refine funOK (Γ := lookC []) (lookC_ok (fun p hp => by cases hp)) (Λ := fun a_ => match a_ with | s => (r01_IsWord.Λ s)) (Λr := fun a_ => match a_ with | s => (fun _ => none)) ?_
  intro a ha
  refine Eq.mpr ?_ (@r01_IsWord.main a)
  kernel_rfl
end Go.AL

namespace Go.AL
set_option linter.unusedVariables false
end Go.AL
namespace Sp
open Go.AL
def number (s : ByteArray) : Bool :=
  decide (s = ⟨#[48]⟩) || (let d := if !decide (s = ByteArray.empty) && decide (byteAt s 0 = 45) then s.extract 1 s.size else s
    allB digit d && !decide (d = ByteArray.empty) && decide ((d.size : Int) ≤ 500) && !decide (byteAt d 0 = 48))
def varC (c : Int) : Bool := letter c || digit c
def var (s : ByteArray) : Bool := allB varC s && !decide (s = ByteArray.empty) && decide ((s.size : Int) ≤ 40)
def sym (t : Tm) : Bool := decide (1 ≤ t.kind) && decide (t.kind ≤ 3)
mutual
def nodesT : Tm → Nat
  | .mk _ _ ks => nodesL ks + 1
def nodesL : List Tm → Nat
  | [] => 0
  | t :: l => nodesT t + nodesL l
end
mutual
def depthT : Tm → Nat
  | .mk k _ ks => if k = 4 ∨ k = 8 ∨ 0 < ks.length then depthL ks + 1 else depthL ks
def depthL : List Tm → Nat
  | [] => 0
  | t :: l => max (depthT t) (depthL l)
end
theorem nodesT_eq (t : Tm) : nodesT t = nodesL t.kids + 1 := by cases t; simp [nodesT, Tm.kids]
theorem depthT_eq (t : Tm) : depthT t = if t.kind = 4 ∨ t.kind = 8 ∨ 0 < t.kids.length then depthL t.kids + 1 else depthL t.kids := by cases t; rfl
theorem nodesL_mem {t : Tm} {l : List Tm} (h : t ∈ l) : nodesL t.kids + 1 ≤ nodesL l := by
  induction l with
  | nil => cases h
  | cons x l ih =>
    simp only [nodesL]
    rcases List.mem_cons.1 h with rfl | h
    · rw [nodesT_eq]; omega
    · have := ih h; omega
theorem nodesL_len (l : List Tm) : l.length ≤ nodesL l := by
  induction l with
  | nil => simp
  | cons x l ih => simp only [nodesL, List.length_cons, nodesT_eq]; omega
theorem nodesL_drop (l : List Tm) (n : Nat) : nodesL (l.drop n) ≤ nodesL l := by
  induction l generalizing n with
  | nil => simp
  | cons x l ih =>
    cases n with
    | zero => simp
    | succ n => simp only [List.drop_succ_cons, nodesL]; have := ih n; omega
mutual
theorem depthT_le : (t : Tm) → depthT t ≤ nodesT t
  | .mk k s ks => by
    have := depthL_le ks
    simp only [depthT, nodesT]
    split <;> omega
theorem depthL_le : (l : List Tm) → depthL l ≤ nodesL l
  | [] => by simp [depthL]
  | t :: l => by
    have h1 := depthT_le t
    have h2 := depthL_le l
    simp only [depthL, nodesL]; omega
end
theorem depthL_mem {t : Tm} {l : List Tm} (h : t ∈ l) : depthL t.kids ≤ depthL l := by
  induction l with
  | nil => cases h
  | cons x l ih =>
    simp only [depthL]
    rcases List.mem_cons.1 h with rfl | h
    · have := depthT_eq t
      split at this <;> omega
    · have := ih h; omega
def right (t : Tm) : Bool :=
  if t.kind ≠ 4 ∧ t.kind ≠ 8 ∧ 0 < t.kids.length then false else
  if t.kind = 1 then decide ((t.text.size : Int) = 1) else
  if t.kind = 2 then word t.text else
  if t.kind = 3 then number t.text else
  if t.kind = 4 then decide (t.text = ByteArray.empty) else
  if t.kind = 5 ∨ t.kind = 6 ∨ t.kind = 7 then var t.text else
  if t.kind = 8 then name t.text 40 else false
mutual
def formT : Tm → Int → Bool
  | .mk k s ks, most => right (.mk k s ks) && decide (k ≤ most) && formL ks most
def formL : List Tm → Int → Bool
  | [], _ => true
  | t :: l, most => formT t most && formL l most
end
theorem formT_eq (t : Tm) (most : Int) : formT t most = (right t && decide (t.kind ≤ most) && formL t.kids most) := by cases t; rfl
def wrong (l : List Tm) (most : Int) : Int := if 4000 < nodesL l then 5 else if 100 < depthL l then 6 else if formL l most then 0 else 2
def sign (a b : ByteArray) : Int := if Go.Op.bytesLess a.toList b.toList then -1 else if Go.Op.bytesLess a.toList b.toList || decide (a = b) then 0 else 1
mutual
def cmpT : Tm → Tm → Int
  | .mk k s ks, t => if k = t.kind then (if sign s t.text = 0 then cmpL ks t.kids else sign s t.text) else if k < t.kind then -1 else 1
def cmpL : List Tm → List Tm → Int
  | [], b => if b.length = 0 then 0 else -1
  | t :: l, b => match b with
    | [] => 1
    | u :: m => if cmpT t u = 0 then cmpL l m else cmpT t u
end
theorem cmpT_eq (t u : Tm) : cmpT t u = if t.kind = u.kind then (if sign t.text u.text = 0 then cmpL t.kids u.kids else sign t.text u.text) else if t.kind < u.kind then -1 else 1 := by cases t; rfl
/-- As far as both go. -/
def pfx : List Tm → List Tm → Int
  | t :: l, u :: m => if cmpT t u = 0 then pfx l m else cmpT t u
  | _, _ => 0
theorem cmpL_pfx : ∀ (a b : List Tm), cmpL a b = if pfx a b = 0 then (if a.length < b.length then -1 else if b.length < a.length then 1 else 0) else pfx a b
  | [], [] => by simp [cmpL, pfx]
  | [], _ :: _ => by simp [cmpL, pfx]
  | _ :: _, [] => by simp [cmpL, pfx]
  | t :: l, u :: m => by
    have := cmpL_pfx l m
    by_cases h : cmpT t u = 0
    · simp [cmpL, pfx, h, this]
    · simp [cmpL, pfx, h]
theorem pfx_end {a b : List Tm} (h : a = [] ∨ b = []) : pfx a b = 0 := by
  rcases h with rfl | rfl
  · simp [pfx]
  · cases a <;> simp [pfx]
/-- Not too many terms. -/
def okL (l : List Tm) : Prop := nodesL l ≤ 1000000000
end Sp
namespace Go.AL

def r01_IsNumber.L0 : LD := { cs := [0], cts := [.str], pts := [], vs := [3], os := [], vts := [.int .i64], own := [false], ro := [0, 4, 5, 6, 7, 8, 9, 10, 11, 12, 13, 14], nx := 100 }
def r01_IsNumber.Λ (s : ByteArray) : Nat → Option (Loop (ElT [.bool])) := fun id =>
  if id = 0 then some (mkLoop r01_IsNumber.L0
    (fun (c_ : ByteArray) (s_ : Int) => match c_, s_ with | s, i => 0 ≤ i ∧ i ≤ s.size)
    (fun (c_ : ByteArray) (s_ : Int) => match c_, s_ with | s, i => (s.size - i : Int).toNat)
    (fun (c_ : ByteArray) (s_ : Int) => match c_, s_ with | s, i => if Sp.allFrom Sp.digit s i.toNat then .brk (s.size : Int) else .ret false) [] true) else
  none
def r01_IsNumber.C : Ctr := pureCtr [.str] [.bool] none (fun (s : ByteArray) => (Sp.number s))
def r01_IsVar.L0 : LD := { cs := [0], cts := [.str], pts := [], vs := [3], os := [], vts := [.int .i64], own := [false], ro := [0], nx := 100 }
def r01_IsVar.Λ (s : ByteArray) : Nat → Option (Loop (ElT [.bool])) := fun id =>
  if id = 0 then some (mkLoop r01_IsVar.L0
    (fun (c_ : ByteArray) (s_ : Int) => match c_, s_ with | c_s, i => c_s = s ∧ 0 ≤ i ∧ i ≤ s.size)
    (fun (c_ : ByteArray) (s_ : Int) => match c_, s_ with | c_s, i => (s.size - i : Int).toNat)
    (fun (c_ : ByteArray) (s_ : Int) => match c_, s_ with | c_s, i => if Sp.allFrom Sp.varC s i.toNat then .brk (s.size : Int) else .ret false) [] true) else
  none
def r01_IsVar.C : Ctr := pureCtr [.str] [.bool] none (fun (s : ByteArray) => (Sp.var s))
def r01_IsSymbol.C : Ctr := pureCtr [.nm 0] [.bool] none (fun (t : Tm) => (Sp.sym t))
def r01_right.C : Ctr := pureCtr [.nm 0] [.bool] none (fun (t : Tm) => (Sp.right t))
def r01_Size.L0 : LD := { cs := [0], cts := [.lst (.nm 0)], pts := [], vs := [4, 5, 6], os := [], vts := [.int .i64, .int .i64, .int .i64], own := [false, false, false], ro := [0, 2, 3], nx := 100 }
def r01_Size.Λ (l : (List Tm)) : Nat → Option (Loop (ElT [.int .i64, .int .i64])) := fun id =>
  if id = 0 then some (mkLoop r01_Size.L0
    (fun (c_ : (List Tm)) (s_ : Int × Int × Int) => match c_, s_ with | c_l, (n, d, i) => c_l = l ∧ 0 ≤ i ∧ i ≤ l.length ∧ 0 ≤ n ∧ 0 ≤ d ∧ n + Sp.nodesL (l.drop i.toNat) ≤ Sp.nodesL l ∧ d ≤ Sp.nodesL l)
    (fun (c_ : (List Tm)) (s_ : Int × Int × Int) => match c_, s_ with | c_l, (n, d, i) => (l.length - i : Int).toNat)
    (fun (c_ : (List Tm)) (s_ : Int × Int × Int) => match c_, s_ with | c_l, (n, d, i) => .brk (n + Sp.nodesL (l.drop i.toNat), max d (Sp.depthL (l.drop i.toNat)), (l.length : Int))) [] false) else
  none
def r01_Size.C : Ctr := pureCtr [.lst (.nm 0)] [.int .i64, .int .i64] (some (fun (l : (List Tm)) => Sp.okL l)) (fun (l : (List Tm)) => (((Sp.nodesL l : Int), (Sp.depthL l : Int))))
def r01_form.L0 : LD := { cs := [0, 1], cts := [.lst (.nm 0), .int .i64], pts := [], vs := [5], os := [], vts := [.int .i64], own := [false], ro := [0, 1], nx := 100 }
def r01_form.Λ (l : (List Tm)) (most : Int) : Nat → Option (Loop (ElT [.bool])) := fun id =>
  if id = 0 then some (mkLoop r01_form.L0
    (fun (c_ : (List Tm) × Int) (s_ : Int) => match c_, s_ with | (c_l, c_most), i => c_l = l ∧ c_most = most ∧ 0 ≤ i ∧ i ≤ l.length)
    (fun (c_ : (List Tm) × Int) (s_ : Int) => match c_, s_ with | (c_l, c_most), i => (l.length - i : Int).toNat)
    (fun (c_ : (List Tm) × Int) (s_ : Int) => match c_, s_ with | (c_l, c_most), i => if Sp.formL (l.drop i.toNat) most then .brk (l.length : Int) else .ret false) [] true) else
  none
def r01_form.C : Ctr := pureCtr [.lst (.nm 0), .int .i64] [.bool] none (fun (a_ : (List Tm) × Int) => match a_ with | (l, most) => (Sp.formL l most))
def r01_wrong.C : Ctr := pureCtr [.lst (.nm 0), .int .i64] [.int .i64] (some (fun (a_ : (List Tm) × Int) => match a_ with | (l, most) => Sp.okL l)) (fun (a_ : (List Tm) × Int) => match a_ with | (l, most) => (Sp.wrong l most))
def r01_Value.C : Ctr := pureCtr [.lst (.nm 0)] [.int .i64] (some (fun (l : (List Tm)) => Sp.okL l)) (fun (l : (List Tm)) => (Sp.wrong l 4))
def r01_Sign.C : Ctr := pureCtr [.str, .str] [.int .i64] none (fun (a_ : ByteArray × ByteArray) => match a_ with | (a, b) => (Sp.sign a b))
def r01_Compare.L0 : LD := { cs := [0, 1], cts := [.lst (.nm 0), .lst (.nm 0)], pts := [], vs := [5], os := [], vts := [.int .i64], own := [false], ro := [0, 1], nx := 100 }
def r01_Compare.Λ (a : (List Tm)) (b : (List Tm)) : Nat → Option (Loop (ElT [.int .i64])) := fun id =>
  if id = 0 then some (mkLoop r01_Compare.L0
    (fun (c_ : (List Tm) × (List Tm)) (s_ : Int) => match c_, s_ with | (c_a, c_b), i => c_a = a ∧ c_b = b ∧ 0 ≤ i ∧ i ≤ a.length ∧ i ≤ b.length)
    (fun (c_ : (List Tm) × (List Tm)) (s_ : Int) => match c_, s_ with | (c_a, c_b), i => (a.length - i : Int).toNat)
    (fun (c_ : (List Tm) × (List Tm)) (s_ : Int) => match c_, s_ with | (c_a, c_b), i => (if Sp.pfx (a.drop i.toNat) (b.drop i.toNat) = 0 then .brk (min a.length b.length : Int) else .ret (Sp.pfx (a.drop i.toNat) (b.drop i.toNat)))) [] true) else
  none
def r01_Compare.C : Ctr := pureCtr [.lst (.nm 0), .lst (.nm 0)] [.int .i64] none (fun (a_ : (List Tm) × (List Tm)) => match a_ with | (a, b) => (Sp.cmpL a b))
def r01_Equal.C : Ctr := pureCtr [.lst (.nm 0), .lst (.nm 0)] [.bool] none (fun (a_ : (List Tm) × (List Tm)) => match a_ with | (a, b) => (decide (Sp.cmpL a b = 0)))
end Go.AL

namespace Go.AL
set_option linter.unusedVariables false
set_option maxRecDepth 10000
def r01_IsNumber.l0 : Prop :=
  (∀ s1 : ByteArray, (∀ i : Int, (((0 ≤ i) ∧ (i ≤ (↑(ByteArray.size s1) : Int))) → (((ByteArray.size s1) < 9223372036854775808) → (ifB (decide (i < (↑(ByteArray.size s1) : Int))) (((0 ≤ i) ∧ (i < (↑(ByteArray.size s1) : Int))) ∧ (∀ b : Bool, (((Sp.digit (byteAt s1 (Int.toNat i))) = b) → (ifB (!b) (((ite ((Sp.allFrom Sp.digit s1 (Int.toNat i)) = Bool.true) (LOut.brk (↑(ByteArray.size s1) : Int)) (LOut.ret Bool.false)) : (LOut Int Bool)) = (LOut.ret Bool.false)) ((inR Go.IntKind.i64 (i + 1)) ∧ (((0 ≤ (i + 1)) ∧ ((i + 1) ≤ (↑(ByteArray.size s1) : Int))) ∧ (((Int.toNat ((↑(ByteArray.size s1) : Int) - (i + 1))) < (Int.toNat ((↑(ByteArray.size s1) : Int) - i))) ∧ (((ite ((Sp.allFrom Sp.digit s1 (Int.toNat (i + 1))) = Bool.true) (LOut.brk (↑(ByteArray.size s1) : Int)) (LOut.ret Bool.false)) : (LOut Int Bool)) = (ite ((Sp.allFrom Sp.digit s1 (Int.toNat i)) = Bool.true) (LOut.brk (↑(ByteArray.size s1) : Int)) (LOut.ret Bool.false)))))))))) (((ite ((Sp.allFrom Sp.digit s1 (Int.toNat i)) = Bool.true) (LOut.brk (↑(ByteArray.size s1) : Int)) (LOut.ret Bool.false)) : (LOut Int Bool)) = (LOut.brk i)))))))
def r01_IsNumber.t (s : ByteArray) : Prop :=
  (ifB (decide (s = (⟨#[48]⟩ : ByteArray))) ((Sp.number s) = Bool.true) ((((!(decide (s = (⟨#[]⟩ : ByteArray)))) = Bool.true) → (((0 : Int) ≤ 0) ∧ (0 < (↑(ByteArray.size s) : Int)))) ∧ (ifB ((!(decide (s = (⟨#[]⟩ : ByteArray)))) && (decide ((byteAt s (Int.toNat 0)) = 45))) ((((0 : Int) ≤ 1) ∧ ((1 ≤ (↑(ByteArray.size s) : Int)) ∧ ((↑(ByteArray.size s) : Int) ≤ (↑(ByteArray.size s) : Int)))) ∧ ((((0 : Int) ≤ 0) ∧ (0 ≤ (↑(ByteArray.size (ByteArray.extract s (Int.toNat 1) (Int.toNat (↑(ByteArray.size s) : Int)))) : Int))) ∧ (r01_IsNumber.l0 ∧ ((∀ i : Int, ((((ite ((Sp.allFrom Sp.digit (ByteArray.extract s (Int.toNat 1) (Int.toNat (↑(ByteArray.size s) : Int))) (Int.toNat 0)) = Bool.true) (LOut.brk (↑(ByteArray.size (ByteArray.extract s (Int.toNat 1) (Int.toNat (↑(ByteArray.size s) : Int)))) : Int)) (LOut.ret Bool.false)) : (LOut Int Bool)) = (LOut.brk i)) → (((((!(decide ((ByteArray.extract s (Int.toNat 1) (Int.toNat (↑(ByteArray.size s) : Int))) = (⟨#[]⟩ : ByteArray)))) && (decide ((↑(ByteArray.size (ByteArray.extract s (Int.toNat 1) (Int.toNat (↑(ByteArray.size s) : Int)))) : Int) ≤ 500))) = Bool.true) → (((0 : Int) ≤ 0) ∧ (0 < (↑(ByteArray.size (ByteArray.extract s (Int.toNat 1) (Int.toNat (↑(ByteArray.size s) : Int)))) : Int)))) ∧ ((Sp.number s) = (((!(decide ((ByteArray.extract s (Int.toNat 1) (Int.toNat (↑(ByteArray.size s) : Int))) = (⟨#[]⟩ : ByteArray)))) && (decide ((↑(ByteArray.size (ByteArray.extract s (Int.toNat 1) (Int.toNat (↑(ByteArray.size s) : Int)))) : Int) ≤ 500))) && (!(decide ((byteAt (ByteArray.extract s (Int.toNat 1) (Int.toNat (↑(ByteArray.size s) : Int))) (Int.toNat 0)) = 48)))))))) ∧ (∀ b : Bool, ((((ite ((Sp.allFrom Sp.digit (ByteArray.extract s (Int.toNat 1) (Int.toNat (↑(ByteArray.size s) : Int))) (Int.toNat 0)) = Bool.true) (LOut.brk (↑(ByteArray.size (ByteArray.extract s (Int.toNat 1) (Int.toNat (↑(ByteArray.size s) : Int)))) : Int)) (LOut.ret Bool.false)) : (LOut Int Bool)) = (LOut.ret b)) → ((Sp.number s) = b))))))) ((((0 : Int) ≤ 0) ∧ (0 ≤ (↑(ByteArray.size s) : Int))) ∧ (r01_IsNumber.l0 ∧ ((∀ i : Int, ((((ite ((Sp.allFrom Sp.digit s (Int.toNat 0)) = Bool.true) (LOut.brk (↑(ByteArray.size s) : Int)) (LOut.ret Bool.false)) : (LOut Int Bool)) = (LOut.brk i)) → (((((!(decide (s = (⟨#[]⟩ : ByteArray)))) && (decide ((↑(ByteArray.size s) : Int) ≤ 500))) = Bool.true) → (((0 : Int) ≤ 0) ∧ (0 < (↑(ByteArray.size s) : Int)))) ∧ ((Sp.number s) = (((!(decide (s = (⟨#[]⟩ : ByteArray)))) && (decide ((↑(ByteArray.size s) : Int) ≤ 500))) && (!(decide ((byteAt s (Int.toNat 0)) = 48)))))))) ∧ (∀ b : Bool, ((((ite ((Sp.allFrom Sp.digit s (Int.toNat 0)) = Bool.true) (LOut.brk (↑(ByteArray.size s) : Int)) (LOut.ret Bool.false)) : (LOut Int Bool)) = (LOut.ret b)) → ((Sp.number s) = b)))))))))
theorem r01_IsNumber.w (s : ByteArray) : wpF Go.Proofs.Try.prog (lookC [(94, r01_Digit.C)]) 107 [.str] [.bool] (r01_IsNumber.Λ s) (fun _ => none) s (fun r => (Sp.number s) = r) = r01_IsNumber.t s := by kernel_rfl
def r01_IsVar.l0 (s : ByteArray) : Prop :=
  (∀ s1 : ByteArray, (∀ i : Int, (((s1 = s) ∧ ((0 ≤ i) ∧ (i ≤ (↑(ByteArray.size s) : Int)))) → (((ByteArray.size s1) < 9223372036854775808) → (ifB (decide (i < (↑(ByteArray.size s1) : Int))) (((0 ≤ i) ∧ (i < (↑(ByteArray.size s1) : Int))) ∧ (∀ b : Bool, (((Sp.letter (byteAt s1 (Int.toNat i))) = b) → ((((!b) = Bool.true) → ((0 ≤ i) ∧ (i < (↑(ByteArray.size s1) : Int)))) ∧ (ifB ((!b) && (!(Sp.digit (byteAt s1 (Int.toNat i))))) (((ite ((Sp.allFrom Sp.varC s (Int.toNat i)) = Bool.true) (LOut.brk (↑(ByteArray.size s) : Int)) (LOut.ret Bool.false)) : (LOut Int Bool)) = (LOut.ret Bool.false)) ((inR Go.IntKind.i64 (i + 1)) ∧ (((s1 = s) ∧ ((0 ≤ (i + 1)) ∧ ((i + 1) ≤ (↑(ByteArray.size s) : Int)))) ∧ (((Int.toNat ((↑(ByteArray.size s) : Int) - (i + 1))) < (Int.toNat ((↑(ByteArray.size s) : Int) - i))) ∧ (((ite ((Sp.allFrom Sp.varC s (Int.toNat (i + 1))) = Bool.true) (LOut.brk (↑(ByteArray.size s) : Int)) (LOut.ret Bool.false)) : (LOut Int Bool)) = (ite ((Sp.allFrom Sp.varC s (Int.toNat i)) = Bool.true) (LOut.brk (↑(ByteArray.size s) : Int)) (LOut.ret Bool.false))))))))))) (((ite ((Sp.allFrom Sp.varC s (Int.toNat i)) = Bool.true) (LOut.brk (↑(ByteArray.size s) : Int)) (LOut.ret Bool.false)) : (LOut Int Bool)) = (LOut.brk i)))))))
def r01_IsVar.t (s : ByteArray) : Prop :=
  (((s = s) ∧ (((0 : Int) ≤ 0) ∧ (0 ≤ (↑(ByteArray.size s) : Int)))) ∧ ((r01_IsVar.l0 s) ∧ ((∀ i : Int, ((((ite ((Sp.allFrom Sp.varC s (Int.toNat 0)) = Bool.true) (LOut.brk (↑(ByteArray.size s) : Int)) (LOut.ret Bool.false)) : (LOut Int Bool)) = (LOut.brk i)) → ((Sp.var s) = ((!(decide (s = (⟨#[]⟩ : ByteArray)))) && (decide ((↑(ByteArray.size s) : Int) ≤ 40)))))) ∧ (∀ b : Bool, ((((ite ((Sp.allFrom Sp.varC s (Int.toNat 0)) = Bool.true) (LOut.brk (↑(ByteArray.size s) : Int)) (LOut.ret Bool.false)) : (LOut Int Bool)) = (LOut.ret b)) → ((Sp.var s) = b))))))
theorem r01_IsVar.w (s : ByteArray) : wpF Go.Proofs.Try.prog (lookC [(93, r01_Letter.C), (94, r01_Digit.C)]) 81 [.str] [.bool] (r01_IsVar.Λ s) (fun _ => none) s (fun r => (Sp.var s) = r) = r01_IsVar.t s := by kernel_rfl
def r01_IsSymbol.t (t : Tm) : Prop :=
  ((Sp.sym t) = ((decide (1 ≤ (Tm.kind t))) && (decide ((Tm.kind t) ≤ 3))))
theorem r01_IsSymbol.w (t : Tm) : wpF Go.Proofs.Try.prog (lookC []) 53 [.nm 0] [.bool] (fun _ => none) (fun _ => none) t (fun r => (Sp.sym t) = r) = r01_IsSymbol.t t := by kernel_rfl
def r01_right.t (t : Tm) : Prop :=
  (ifB (((!(decide ((Tm.kind t) = 4))) && (!(decide ((Tm.kind t) = 8)))) && (decide (0 < (↑(List.length (Tm.kids t)) : Int)))) ((Sp.right t) = Bool.false) (ifB (decide ((Tm.kind t) = 1)) (((ByteArray.size (Tm.text t)) < 9223372036854775808) → ((Sp.right t) = (decide ((↑(ByteArray.size (Tm.text t)) : Int) = 1)))) (ifB (decide ((Tm.kind t) = 2)) (∀ b : Bool, (((Sp.word (Tm.text t)) = b) → ((Sp.right t) = b))) (ifB (decide ((Tm.kind t) = 3)) (∀ b : Bool, (((Sp.number (Tm.text t)) = b) → ((Sp.right t) = b))) (ifB (decide ((Tm.kind t) = 4)) ((Sp.right t) = (decide ((Tm.text t) = (⟨#[]⟩ : ByteArray)))) (ifB (decide ((Tm.kind t) = 5)) (ifB (decide ((Tm.kind t) = 5)) (∀ b : Bool, (((Sp.var (Tm.text t)) = b) → ((Sp.right t) = b))) (ifB (decide ((Tm.kind t) = 8)) (∀ b : Bool, (((Sp.name (Tm.text t) 40) = b) → ((Sp.right t) = b))) ((Sp.right t) = Bool.false))) (ifB (decide ((Tm.kind t) = 6)) (ifB (decide ((Tm.kind t) = 6)) (∀ b : Bool, (((Sp.var (Tm.text t)) = b) → ((Sp.right t) = b))) (ifB (decide ((Tm.kind t) = 8)) (∀ b : Bool, (((Sp.name (Tm.text t) 40) = b) → ((Sp.right t) = b))) ((Sp.right t) = Bool.false))) (ifB (decide ((Tm.kind t) = 7)) (∀ b : Bool, (((Sp.var (Tm.text t)) = b) → ((Sp.right t) = b))) (ifB (decide ((Tm.kind t) = 8)) (∀ b : Bool, (((Sp.name (Tm.text t) 40) = b) → ((Sp.right t) = b))) ((Sp.right t) = Bool.false))))))))))
theorem r01_right.w (t : Tm) : wpF Go.Proofs.Try.prog (lookC [(81, r01_IsVar.C), (106, r01_IsWord.C), (107, r01_IsNumber.C), (108, r01_IsName.C)]) 101 [.nm 0] [.bool] (fun _ => none) (fun _ => none) t (fun r => (Sp.right t) = r) = r01_right.t t := by kernel_rfl
def r01_Size.l0 (l : (List Tm)) : Prop :=
  (∀ l1 : (List Tm), (∀ i : Int, (∀ i1 : Int, (∀ i2 : Int, (((l1 = l) ∧ ((0 ≤ i2) ∧ ((i2 ≤ (↑(List.length l) : Int)) ∧ ((0 ≤ i) ∧ ((0 ≤ i1) ∧ (((i + (↑(Sp.nodesL (List.drop (Int.toNat i2) l)) : Int)) ≤ (↑(Sp.nodesL l) : Int)) ∧ (i1 ≤ (↑(Sp.nodesL l) : Int)))))))) → (((List.length l1) < 9223372036854775808) → (ifB (decide (i2 < (↑(List.length l1) : Int))) (((0 ≤ i2) ∧ (i2 < (↑(List.length l1) : Int))) ∧ (((Sp.okL (Tm.kids (nth (Inhabited.default) l1 i2))) ∧ ((Sp.nodesL (Tm.kids (nth (Inhabited.default) l1 i2))) < (Sp.nodesL l))) ∧ (∀ i3 : Int, (∀ i4 : Int, ((((↑(Sp.nodesL (Tm.kids (nth (Inhabited.default) l1 i2))) : Int), (↑(Sp.depthL (Tm.kids (nth (Inhabited.default) l1 i2))) : Int)) = (i3, i4)) → (((0 ≤ i2) ∧ (i2 < (↑(List.length l1) : Int))) ∧ ((((decide ((Tm.kind (nth (Inhabited.default) l1 i2)) = 4)) = Bool.false) → ((0 ≤ i2) ∧ (i2 < (↑(List.length l1) : Int)))) ∧ (((((decide ((Tm.kind (nth (Inhabited.default) l1 i2)) = 4)) || (decide ((Tm.kind (nth (Inhabited.default) l1 i2)) = 8))) = Bool.false) → ((0 ≤ i2) ∧ (i2 < (↑(List.length l1) : Int)))) ∧ (ifB (((decide ((Tm.kind (nth (Inhabited.default) l1 i2)) = 4)) || (decide ((Tm.kind (nth (Inhabited.default) l1 i2)) = 8))) || (decide (0 < (↑(List.length (Tm.kids (nth (Inhabited.default) l1 i2))) : Int)))) ((inR Go.IntKind.i64 (i4 + 1)) ∧ ((inR Go.IntKind.i64 (i + i3)) ∧ ((inR Go.IntKind.i64 ((i + i3) + 1)) ∧ ((inR Go.IntKind.i64 (i2 + 1)) ∧ (((l1 = l) ∧ ((0 ≤ (i2 + 1)) ∧ (((i2 + 1) ≤ (↑(List.length l) : Int)) ∧ ((0 ≤ ((i + i3) + 1)) ∧ ((0 ≤ (Max.max i1 (i4 + 1))) ∧ (((((i + i3) + 1) + (↑(Sp.nodesL (List.drop (Int.toNat (i2 + 1)) l)) : Int)) ≤ (↑(Sp.nodesL l) : Int)) ∧ ((Max.max i1 (i4 + 1)) ≤ (↑(Sp.nodesL l) : Int)))))))) ∧ (((Int.toNat ((↑(List.length l) : Int) - (i2 + 1))) < (Int.toNat ((↑(List.length l) : Int) - i2))) ∧ (((LOut.brk ((((i + i3) + 1) + (↑(Sp.nodesL (List.drop (Int.toNat (i2 + 1)) l)) : Int)), ((Max.max (Max.max i1 (i4 + 1)) (↑(Sp.depthL (List.drop (Int.toNat (i2 + 1)) l)) : Int)), (↑(List.length l) : Int)))) : (LOut (Int × (Int × Int)) (Int × Int))) = (LOut.brk ((i + (↑(Sp.nodesL (List.drop (Int.toNat i2) l)) : Int)), ((Max.max i1 (↑(Sp.depthL (List.drop (Int.toNat i2) l)) : Int)), (↑(List.length l) : Int))))))))))) ((inR Go.IntKind.i64 (i + i3)) ∧ ((inR Go.IntKind.i64 ((i + i3) + 1)) ∧ ((inR Go.IntKind.i64 (i2 + 1)) ∧ (((l1 = l) ∧ ((0 ≤ (i2 + 1)) ∧ (((i2 + 1) ≤ (↑(List.length l) : Int)) ∧ ((0 ≤ ((i + i3) + 1)) ∧ ((0 ≤ (Max.max i1 i4)) ∧ (((((i + i3) + 1) + (↑(Sp.nodesL (List.drop (Int.toNat (i2 + 1)) l)) : Int)) ≤ (↑(Sp.nodesL l) : Int)) ∧ ((Max.max i1 i4) ≤ (↑(Sp.nodesL l) : Int)))))))) ∧ (((Int.toNat ((↑(List.length l) : Int) - (i2 + 1))) < (Int.toNat ((↑(List.length l) : Int) - i2))) ∧ (((LOut.brk ((((i + i3) + 1) + (↑(Sp.nodesL (List.drop (Int.toNat (i2 + 1)) l)) : Int)), ((Max.max (Max.max i1 i4) (↑(Sp.depthL (List.drop (Int.toNat (i2 + 1)) l)) : Int)), (↑(List.length l) : Int)))) : (LOut (Int × (Int × Int)) (Int × Int))) = (LOut.brk ((i + (↑(Sp.nodesL (List.drop (Int.toNat i2) l)) : Int)), ((Max.max i1 (↑(Sp.depthL (List.drop (Int.toNat i2) l)) : Int)), (↑(List.length l) : Int))))))))))))))))))) (((LOut.brk ((i + (↑(Sp.nodesL (List.drop (Int.toNat i2) l)) : Int)), ((Max.max i1 (↑(Sp.depthL (List.drop (Int.toNat i2) l)) : Int)), (↑(List.length l) : Int)))) : (LOut (Int × (Int × Int)) (Int × Int))) = (LOut.brk (i, (i1, i2)))))))))))
def r01_Size.t (l : (List Tm)) : Prop :=
  (((l = l) ∧ (((0 : Int) ≤ 0) ∧ ((0 ≤ (↑(List.length l) : Int)) ∧ (((0 : Int) ≤ 0) ∧ (((0 : Int) ≤ 0) ∧ (((0 + (↑(Sp.nodesL (List.drop (Int.toNat 0) l)) : Int)) ≤ (↑(Sp.nodesL l) : Int)) ∧ (0 ≤ (↑(Sp.nodesL l) : Int)))))))) ∧ ((r01_Size.l0 l) ∧ (∀ i : Int, (∀ i1 : Int, (∀ i2 : Int, ((((LOut.brk ((0 + (↑(Sp.nodesL (List.drop (Int.toNat 0) l)) : Int)), ((Max.max 0 (↑(Sp.depthL (List.drop (Int.toNat 0) l)) : Int)), (↑(List.length l) : Int)))) : (LOut (Int × (Int × Int)) (Int × Int))) = (LOut.brk (i, (i1, i2)))) → (((↑(Sp.nodesL l) : Int), (↑(Sp.depthL l) : Int)) = (i, i1))))))))
theorem r01_Size.w (l : (List Tm)) : wpF Go.Proofs.Try.prog (lookC ((72, pureCtr [.lst (.nm 0)] [.int .i64, .int .i64] (some fun b_ => preC (some (fun (l : (List Tm)) => Sp.okL l)) b_ ∧ (fun (l : (List Tm)) => Sp.nodesL l) b_ < (fun (l : (List Tm)) => Sp.nodesL l) l) (fun (l : (List Tm)) => (((Sp.nodesL l : Int), (Sp.depthL l : Int))))) :: [])) 72 [.lst (.nm 0)] [.int .i64, .int .i64] (r01_Size.Λ l) (fun _ => none) l (fun r => (((Sp.nodesL l : Int), (Sp.depthL l : Int))) = r) = r01_Size.t l := by kernel_rfl
def r01_form.l0 (l : (List Tm)) (most : Int) : Prop :=
  (∀ l1 : (List Tm), (∀ i : Int, (∀ i1 : Int, (((l1 = l) ∧ ((i = most) ∧ ((0 ≤ i1) ∧ (i1 ≤ (↑(List.length l) : Int))))) → (((List.length l1) < 9223372036854775808) → (ifB (decide (i1 < (↑(List.length l1) : Int))) (((0 ≤ i1) ∧ (i1 < (↑(List.length l1) : Int))) ∧ (∀ b : Bool, (((Sp.right (nth (Inhabited.default) l1 i1)) = b) → ((((!b) = Bool.false) → ((0 ≤ i1) ∧ (i1 < (↑(List.length l1) : Int)))) ∧ (((((!b) || (decide (i < (Tm.kind (nth (Inhabited.default) l1 i1))))) = Bool.false) → ((0 ≤ i1) ∧ (i1 < (↑(List.length l1) : Int)))) ∧ (((((!b) || (decide (i < (Tm.kind (nth (Inhabited.default) l1 i1))))) = Bool.false) → (True ∧ ((Sp.nodesL (Tm.kids (nth (Inhabited.default) l1 i1))) < (Sp.nodesL l)))) ∧ (ifB (((!b) || (decide (i < (Tm.kind (nth (Inhabited.default) l1 i1))))) || (!(Sp.formL (Tm.kids (nth (Inhabited.default) l1 i1)) i))) (((ite ((Sp.formL (List.drop (Int.toNat i1) l) most) = Bool.true) (LOut.brk (↑(List.length l) : Int)) (LOut.ret Bool.false)) : (LOut Int Bool)) = (LOut.ret Bool.false)) ((inR Go.IntKind.i64 (i1 + 1)) ∧ (((l1 = l) ∧ ((i = most) ∧ ((0 ≤ (i1 + 1)) ∧ ((i1 + 1) ≤ (↑(List.length l) : Int))))) ∧ (((Int.toNat ((↑(List.length l) : Int) - (i1 + 1))) < (Int.toNat ((↑(List.length l) : Int) - i1))) ∧ (((ite ((Sp.formL (List.drop (Int.toNat (i1 + 1)) l) most) = Bool.true) (LOut.brk (↑(List.length l) : Int)) (LOut.ret Bool.false)) : (LOut Int Bool)) = (ite ((Sp.formL (List.drop (Int.toNat i1) l) most) = Bool.true) (LOut.brk (↑(List.length l) : Int)) (LOut.ret Bool.false))))))))))))) (((ite ((Sp.formL (List.drop (Int.toNat i1) l) most) = Bool.true) (LOut.brk (↑(List.length l) : Int)) (LOut.ret Bool.false)) : (LOut Int Bool)) = (LOut.brk i1))))))))
def r01_form.t (l : (List Tm)) (most : Int) : Prop :=
  (((l = l) ∧ ((most = most) ∧ (((0 : Int) ≤ 0) ∧ (0 ≤ (↑(List.length l) : Int))))) ∧ ((r01_form.l0 l most) ∧ ((∀ i : Int, ((((ite ((Sp.formL (List.drop (Int.toNat 0) l) most) = Bool.true) (LOut.brk (↑(List.length l) : Int)) (LOut.ret Bool.false)) : (LOut Int Bool)) = (LOut.brk i)) → ((Sp.formL l most) = Bool.true))) ∧ (∀ b : Bool, ((((ite ((Sp.formL (List.drop (Int.toNat 0) l) most) = Bool.true) (LOut.brk (↑(List.length l) : Int)) (LOut.ret Bool.false)) : (LOut Int Bool)) = (LOut.ret b)) → ((Sp.formL l most) = b))))))
theorem r01_form.w (l : (List Tm)) (most : Int) : wpF Go.Proofs.Try.prog (lookC ((86, pureCtr [.lst (.nm 0), .int .i64] [.bool] (some fun b_ => preC none b_ ∧ (fun (a_ : (List Tm) × Int) => match a_ with | (l, most) => Sp.nodesL l) b_ < (fun (a_ : (List Tm) × Int) => match a_ with | (l, most) => Sp.nodesL l) (l, most)) (fun (a_ : (List Tm) × Int) => match a_ with | (l, most) => (Sp.formL l most))) :: [(101, r01_right.C)])) 86 [.lst (.nm 0), .int .i64] [.bool] (r01_form.Λ l most) (fun _ => none) (l, most) (fun r => (Sp.formL l most) = r) = r01_form.t l most := by kernel_rfl
def r01_wrong.t (l : (List Tm)) (most : Int) : Prop :=
  ((Sp.okL l) ∧ (∀ i : Int, (∀ i1 : Int, ((((↑(Sp.nodesL l) : Int), (↑(Sp.depthL l) : Int)) = (i, i1)) → (ifB (decide (4000 < i)) ((Sp.wrong l most) = 5) (ifB (decide (100 < i1)) ((Sp.wrong l most) = 6) (∀ b : Bool, (((Sp.formL l most) = b) → (ifB (!b) ((Sp.wrong l most) = 2) ((Sp.wrong l most) = 0))))))))))
theorem r01_wrong.w (l : (List Tm)) (most : Int) : wpF Go.Proofs.Try.prog (lookC [(72, r01_Size.C), (86, r01_form.C)]) 65 [.lst (.nm 0), .int .i64] [.int .i64] (fun _ => none) (fun _ => none) (l, most) (fun r => (Sp.wrong l most) = r) = r01_wrong.t l most := by kernel_rfl
def r01_Value.t (l : (List Tm)) : Prop :=
  ((Sp.okL l) ∧ (∀ i : Int, (((Sp.wrong l 4) = i) → ((Sp.wrong l 4) = i))))
theorem r01_Value.w (l : (List Tm)) : wpF Go.Proofs.Try.prog (lookC [(65, r01_wrong.C)]) 35 [.lst (.nm 0)] [.int .i64] (fun _ => none) (fun _ => none) l (fun r => (Sp.wrong l 4) = r) = r01_Value.t l := by kernel_rfl
def r01_Sign.t (a : ByteArray) (b : ByteArray) : Prop :=
  (ifB (Go.Op.bytesLess (ByteArray.toList a) (ByteArray.toList b)) ((Sp.sign a b) = (-1)) (ifB (!((Go.Op.bytesLess (ByteArray.toList a) (ByteArray.toList b)) || (decide (a = b)))) ((Sp.sign a b) = 1) ((Sp.sign a b) = 0)))
theorem r01_Sign.w (a : ByteArray) (b : ByteArray) : wpF Go.Proofs.Try.prog (lookC []) 66 [.str, .str] [.int .i64] (fun _ => none) (fun _ => none) (a, b) (fun r => (Sp.sign a b) = r) = r01_Sign.t a b := by kernel_rfl
def r01_Compare.l0 (a : (List Tm)) (b : (List Tm)) : Prop :=
  (∀ l : (List Tm), (∀ l1 : (List Tm), (∀ i : Int, (((l = a) ∧ ((l1 = b) ∧ ((0 ≤ i) ∧ ((i ≤ (↑(List.length a) : Int)) ∧ (i ≤ (↑(List.length b) : Int)))))) → (((List.length l) < 9223372036854775808) → (ifB ((decide (i < (↑(List.length l) : Int))) && (decide (i < (↑(List.length l1) : Int)))) (((0 ≤ i) ∧ (i < (↑(List.length l) : Int))) ∧ (((0 ≤ i) ∧ (i < (↑(List.length l1) : Int))) ∧ (ifB (!(decide ((Tm.kind (nth (Inhabited.default) l i)) = (Tm.kind (nth (Inhabited.default) l1 i))))) (((0 ≤ i) ∧ (i < (↑(List.length l) : Int))) ∧ (((0 ≤ i) ∧ (i < (↑(List.length l1) : Int))) ∧ (ifB (decide ((Tm.kind (nth (Inhabited.default) l i)) < (Tm.kind (nth (Inhabited.default) l1 i)))) (((ite ((Sp.pfx (List.drop (Int.toNat i) a) (List.drop (Int.toNat i) b)) = 0) (LOut.brk (Min.min (↑(List.length a) : Int) (↑(List.length b) : Int))) (LOut.ret (Sp.pfx (List.drop (Int.toNat i) a) (List.drop (Int.toNat i) b)))) : (LOut Int Int)) = (LOut.ret (-1))) (((ite ((Sp.pfx (List.drop (Int.toNat i) a) (List.drop (Int.toNat i) b)) = 0) (LOut.brk (Min.min (↑(List.length a) : Int) (↑(List.length b) : Int))) (LOut.ret (Sp.pfx (List.drop (Int.toNat i) a) (List.drop (Int.toNat i) b)))) : (LOut Int Int)) = (LOut.ret 1))))) (((0 ≤ i) ∧ (i < (↑(List.length l) : Int))) ∧ (((0 ≤ i) ∧ (i < (↑(List.length l1) : Int))) ∧ (∀ i1 : Int, (((Sp.sign (Tm.text (nth (Inhabited.default) l i)) (Tm.text (nth (Inhabited.default) l1 i))) = i1) → (ifB (!(decide (i1 = 0))) (((ite ((Sp.pfx (List.drop (Int.toNat i) a) (List.drop (Int.toNat i) b)) = 0) (LOut.brk (Min.min (↑(List.length a) : Int) (↑(List.length b) : Int))) (LOut.ret (Sp.pfx (List.drop (Int.toNat i) a) (List.drop (Int.toNat i) b)))) : (LOut Int Int)) = (LOut.ret i1)) (((0 ≤ i) ∧ (i < (↑(List.length l) : Int))) ∧ (((0 ≤ i) ∧ (i < (↑(List.length l1) : Int))) ∧ ((True ∧ ((Sp.nodesL (Tm.kids (nth (Inhabited.default) l i))) < (Sp.nodesL a))) ∧ (∀ i2 : Int, (((Sp.cmpL (Tm.kids (nth (Inhabited.default) l i)) (Tm.kids (nth (Inhabited.default) l1 i))) = i2) → (ifB (!(decide (i2 = 0))) (((ite ((Sp.pfx (List.drop (Int.toNat i) a) (List.drop (Int.toNat i) b)) = 0) (LOut.brk (Min.min (↑(List.length a) : Int) (↑(List.length b) : Int))) (LOut.ret (Sp.pfx (List.drop (Int.toNat i) a) (List.drop (Int.toNat i) b)))) : (LOut Int Int)) = (LOut.ret i2)) ((inR Go.IntKind.i64 (i + 1)) ∧ (((l = a) ∧ ((l1 = b) ∧ ((0 ≤ (i + 1)) ∧ (((i + 1) ≤ (↑(List.length a) : Int)) ∧ ((i + 1) ≤ (↑(List.length b) : Int)))))) ∧ (((Int.toNat ((↑(List.length a) : Int) - (i + 1))) < (Int.toNat ((↑(List.length a) : Int) - i))) ∧ (((ite ((Sp.pfx (List.drop (Int.toNat (i + 1)) a) (List.drop (Int.toNat (i + 1)) b)) = 0) (LOut.brk (Min.min (↑(List.length a) : Int) (↑(List.length b) : Int))) (LOut.ret (Sp.pfx (List.drop (Int.toNat (i + 1)) a) (List.drop (Int.toNat (i + 1)) b)))) : (LOut Int Int)) = (ite ((Sp.pfx (List.drop (Int.toNat i) a) (List.drop (Int.toNat i) b)) = 0) (LOut.brk (Min.min (↑(List.length a) : Int) (↑(List.length b) : Int))) (LOut.ret (Sp.pfx (List.drop (Int.toNat i) a) (List.drop (Int.toNat i) b)))))))))))))))))))))) (((ite ((Sp.pfx (List.drop (Int.toNat i) a) (List.drop (Int.toNat i) b)) = 0) (LOut.brk (Min.min (↑(List.length a) : Int) (↑(List.length b) : Int))) (LOut.ret (Sp.pfx (List.drop (Int.toNat i) a) (List.drop (Int.toNat i) b)))) : (LOut Int Int)) = (LOut.brk i))))))))
def r01_Compare.t (a : (List Tm)) (b : (List Tm)) : Prop :=
  (((a = a) ∧ ((b = b) ∧ (((0 : Int) ≤ 0) ∧ ((0 ≤ (↑(List.length a) : Int)) ∧ (0 ≤ (↑(List.length b) : Int)))))) ∧ ((r01_Compare.l0 a b) ∧ ((∀ i : Int, ((((ite ((Sp.pfx (List.drop (Int.toNat 0) a) (List.drop (Int.toNat 0) b)) = 0) (LOut.brk (Min.min (↑(List.length a) : Int) (↑(List.length b) : Int))) (LOut.ret (Sp.pfx (List.drop (Int.toNat 0) a) (List.drop (Int.toNat 0) b)))) : (LOut Int Int)) = (LOut.brk i)) → (((List.length a) < 9223372036854775808) → (((List.length b) < 9223372036854775808) → (ifB (decide ((↑(List.length a) : Int) < (↑(List.length b) : Int))) ((Sp.cmpL a b) = (-1)) (((List.length a) < 9223372036854775808) → (((List.length b) < 9223372036854775808) → (ifB (decide ((↑(List.length b) : Int) < (↑(List.length a) : Int))) ((Sp.cmpL a b) = 1) ((Sp.cmpL a b) = 0))))))))) ∧ (∀ i : Int, ((((ite ((Sp.pfx (List.drop (Int.toNat 0) a) (List.drop (Int.toNat 0) b)) = 0) (LOut.brk (Min.min (↑(List.length a) : Int) (↑(List.length b) : Int))) (LOut.ret (Sp.pfx (List.drop (Int.toNat 0) a) (List.drop (Int.toNat 0) b)))) : (LOut Int Int)) = (LOut.ret i)) → ((Sp.cmpL a b) = i))))))
theorem r01_Compare.w (a : (List Tm)) (b : (List Tm)) : wpF Go.Proofs.Try.prog (lookC ((37, pureCtr [.lst (.nm 0), .lst (.nm 0)] [.int .i64] (some fun b_ => preC none b_ ∧ (fun (a_ : (List Tm) × (List Tm)) => match a_ with | (a, b) => Sp.nodesL a) b_ < (fun (a_ : (List Tm) × (List Tm)) => match a_ with | (a, b) => Sp.nodesL a) (a, b)) (fun (a_ : (List Tm) × (List Tm)) => match a_ with | (a, b) => (Sp.cmpL a b))) :: [(66, r01_Sign.C)])) 37 [.lst (.nm 0), .lst (.nm 0)] [.int .i64] (r01_Compare.Λ a b) (fun _ => none) (a, b) (fun r => (Sp.cmpL a b) = r) = r01_Compare.t a b := by kernel_rfl
def r01_Equal.t (a : (List Tm)) (b : (List Tm)) : Prop :=
  (∀ i : Int, (((Sp.cmpL a b) = i) → ((decide ((Sp.cmpL a b) = 0)) = (decide (i = 0)))))
theorem r01_Equal.w (a : (List Tm)) (b : (List Tm)) : wpF Go.Proofs.Try.prog (lookC [(37, r01_Compare.C)]) 14 [.lst (.nm 0), .lst (.nm 0)] [.bool] (fun _ => none) (fun _ => none) (a, b) (fun r => (decide (Sp.cmpL a b = 0)) = r) = r01_Equal.t a b := by kernel_rfl
end Go.AL

namespace Go.AL
set_option linter.unusedVariables false
set_option linter.unusedSimpArgs false
set_option maxRecDepth 10000
attribute [local irreducible] wpF wpFX wpM
theorem r01_IsNumber.l0_ok : r01_IsNumber.l0 := by
  intro s i hi hs
  refine ifD (fun h => ⟨by omega, fun b hb => ?_⟩) fun h => ?_
  · rw [Sp.allFrom_step (by omega), hb]
    cases b with
    | false => simp
    | true =>
      refine ⟨inR64 (by omega), by omega, by omega, ?_⟩
      rw [show (i + 1).toNat = i.toNat + 1 by omega]; simp
  · rw [Sp.allFrom_end (by omega), if_pos rfl]; congr 1; omega
theorem r01_IsNumber.main (s : ByteArray) : r01_IsNumber.t s := by
  refine ifD (fun h => by simp [Sp.number, h]) fun h => ⟨fun h1 => ?_, ifB_of (fun h2 => ?_) fun h2 => ?_⟩
  · simp only [Bool.and_eq_true, Bool.or_eq_true, Bool.not_eq_true', Bool.or_eq_false_iff, Bool.and_eq_false_iff, Bool.not_eq_false', decide_eq_true_eq, decide_eq_false_iff_not, mk_empty] at h1; have := size_pos h1; omega
  · simp only [Bool.and_eq_true, Bool.or_eq_true, Bool.not_eq_true', Bool.or_eq_false_iff, Bool.and_eq_false_iff, Bool.not_eq_false', decide_eq_true_eq, decide_eq_false_iff_not, mk_empty] at h2
    have h3 := size_pos h2.1
    refine ⟨by omega, by omega, r01_IsNumber.l0_ok, fun i hi => ⟨fun h4 => ?_, ?_⟩, fun b hb => ?_⟩
    · simp only [Bool.and_eq_true, Bool.or_eq_true, Bool.not_eq_true', Bool.or_eq_false_iff, Bool.and_eq_false_iff, Bool.not_eq_false', decide_eq_true_eq, decide_eq_false_iff_not, mk_empty] at h4; have := size_pos h4.1; omega
    · split at hi
      · rename_i h5
        simp only [Sp.number, Sp.allB]
        simp only [Int.toNat_zero, mk_empty] at h2 h5 ⊢
        have h6 : Sp.allFrom Sp.digit (s.extract 1 s.size) 0 = true := h5
        simp only [h2, decide_true, decide_false, Bool.not_false, Bool.and_self, if_true, h6, h, Bool.false_or, Bool.true_and]
        rfl
      · simp at hi
    · split at hb
      · simp at hb
      · rename_i h5; simp at hb; subst hb
        simp only [Sp.number, Sp.allB]
        simp only [Int.toNat_zero, mk_empty] at h2 h5 ⊢
        have h6 : Sp.allFrom Sp.digit (s.extract 1 s.size) 0 = false := by simpa using h5
        simp only [h2, decide_true, decide_false, Bool.not_false, Bool.and_self, if_true, h6, h, Bool.false_or, Bool.false_and]
  · refine ⟨by omega, r01_IsNumber.l0_ok, fun i hi => ⟨fun h4 => ?_, ?_⟩, fun b hb => ?_⟩
    · simp only [Bool.and_eq_true, Bool.or_eq_true, Bool.not_eq_true', Bool.or_eq_false_iff, Bool.and_eq_false_iff, Bool.not_eq_false', decide_eq_true_eq, decide_eq_false_iff_not, mk_empty] at h4; have := size_pos h4.1; omega
    · split at hi
      · rename_i h5
        simp only [Sp.number, Sp.allB]
        simp only [Int.toNat_zero, mk_empty] at h2 h5 ⊢
        simp [h2, h, h5]
      · simp at hi
    · split at hb
      · simp at hb
      · rename_i h5; simp at hb; subst hb
        simp only [Sp.number, Sp.allB]
        simp only [Int.toNat_zero, mk_empty] at h2 h5 ⊢
        simp [h2, h, h5]
theorem r01_IsNumber.ok (W : World) : CtrOK Go.Proofs.Try.prog W 107 r01_IsNumber.C := by
  refine funOK (Γ := lookC [(94, r01_Digit.C)]) (lookC_ok (fun p hp => by
    simp only [List.mem_cons, List.not_mem_nil, or_false] at hp
    subst hp; exact r01_Digit.ok W)) (Λ := fun a_ => match a_ with | s => (r01_IsNumber.Λ s)) (Λr := fun a_ => match a_ with | s => (fun _ => none)) ?_
  intro a ha
  refine Eq.mpr ?_ (@r01_IsNumber.main a)
  kernel_rfl
theorem r01_IsVar.l0_ok (s : ByteArray) : r01_IsVar.l0 s := by
  rintro _ i ⟨rfl, hi⟩ hs
  refine ifD (fun h => ⟨by omega, fun b hb => ⟨fun _ => by omega, ?_⟩⟩) fun h => ?_
  · subst hb
    rw [Sp.allFrom_step (by omega)]
    refine ifB_of (fun hb => ?_) fun hb => ⟨inR64 (by omega), ⟨rfl, by omega⟩, by omega, ?_⟩
    · simp at hb; simp [Sp.varC, hb]
    · rw [show (i + 1).toNat = i.toNat + 1 by omega]
      rw [show Sp.varC (byteAt _ i.toNat) = true by simp only [Sp.varC]; revert hb; cases Sp.letter (byteAt _ i.toNat) <;> simp]; simp
  · rw [Sp.allFrom_end (by omega), if_pos rfl]; congr 1; omega
theorem r01_IsVar.main (s : ByteArray) : r01_IsVar.t s := by
  refine ⟨⟨rfl, by omega⟩, r01_IsVar.l0_ok s, fun i hi => ?_, fun b hb => ?_⟩
  · split at hi
    · rename_i h; simp only [Int.toNat_zero] at h; simp [Sp.var, Sp.allB, h]
    · simp at hi
  · split at hb
    · simp at hb
    · rename_i h; simp only [Int.toNat_zero] at h; simp at hb; subst hb; simp [Sp.var, Sp.allB, h]
theorem r01_IsVar.ok (W : World) : CtrOK Go.Proofs.Try.prog W 81 r01_IsVar.C := by
  refine funOK (Γ := lookC [(93, r01_Letter.C), (94, r01_Digit.C)]) (lookC_ok (fun p hp => by
    simp only [List.mem_cons, List.not_mem_nil, or_false] at hp
    rcases hp with rfl | rfl
    · exact r01_Letter.ok W
    · exact r01_Digit.ok W)) (Λ := fun a_ => match a_ with | s => (r01_IsVar.Λ s)) (Λr := fun a_ => match a_ with | s => (fun _ => none)) ?_
  intro a ha
  refine Eq.mpr ?_ (@r01_IsVar.main a)
  kernel_rfl
theorem r01_IsSymbol.main (t : Tm) : r01_IsSymbol.t t := by
  simp [r01_IsSymbol.t, Sp.sym]
theorem r01_IsSymbol.ok (W : World) : CtrOK Go.Proofs.Try.prog W 53 r01_IsSymbol.C := by
  refine funOK (Γ := lookC []) (lookC_ok (fun p hp => by cases hp)) (Λ := fun a_ => match a_ with | t => (fun _ => none)) (Λr := fun a_ => match a_ with | t => (fun _ => none)) ?_
  intro a ha
  refine Eq.mpr ?_ (@r01_IsSymbol.main a)
  kernel_rfl
theorem r01_right.main (t : Tm) : r01_right.t t := by
  unfold r01_right.t Sp.right
  simp only [forall_eq']
  have hl : (t.kind ≠ 4 ∧ t.kind ≠ 8 ∧ 0 < t.kids.length) ↔ (((!(decide (t.kind = 4))) && (!(decide (t.kind = 8)))) && (decide (0 < (↑(List.length (Tm.kids t)) : Int)))) = true := by simp only [Bool.and_eq_true, Bool.or_eq_true, Bool.not_eq_true', Bool.or_eq_false_iff, Bool.and_eq_false_iff, Bool.not_eq_false', decide_eq_true_eq, decide_eq_false_iff_not, mk_empty]; omega
  refine ifB_of (fun h => by rw [if_pos (hl.2 h)]) fun h => ?_
  rw [if_neg (fun hh => by rw [hl.1 hh] at h; cases h)]
  refine ifD (fun h1 => fun _ => by rw [if_pos h1]) fun h1 => ?_
  rw [if_neg h1]
  refine ifD (fun h1 => by rw [if_pos h1]) fun h1 => ?_
  rw [if_neg h1]
  refine ifD (fun h1 => by rw [if_pos h1]) fun h1 => ?_
  rw [if_neg h1]
  refine ifD (fun h1 => by rw [if_pos h1]; rfl) fun h1 => ?_
  rw [if_neg h1]
  simp only [ifB_iff]; simp only [Bool.and_eq_true, Bool.or_eq_true, Bool.not_eq_true', Bool.or_eq_false_iff, Bool.and_eq_false_iff, Bool.not_eq_false', decide_eq_true_eq, decide_eq_false_iff_not, mk_empty]
  by_cases h5 : t.kind = 5
  · simp [h5]
  by_cases h6 : t.kind = 6
  · simp [h6]
  by_cases h7 : t.kind = 7
  · simp [h7]
  by_cases h8 : t.kind = 8
  · simp [h8]
  · simp [h5, h6, h7, h8]
theorem r01_right.ok (W : World) : CtrOK Go.Proofs.Try.prog W 101 r01_right.C := by
  refine funOK (Γ := lookC [(81, r01_IsVar.C), (106, r01_IsWord.C), (107, r01_IsNumber.C), (108, r01_IsName.C)]) (lookC_ok (fun p hp => by
    simp only [List.mem_cons, List.not_mem_nil, or_false] at hp
    rcases hp with rfl | rfl | rfl | rfl
    · exact r01_IsVar.ok W
    · exact r01_IsWord.ok W
    · exact r01_IsNumber.ok W
    · exact r01_IsName.ok W)) (Λ := fun a_ => match a_ with | t => (fun _ => none)) (Λr := fun a_ => match a_ with | t => (fun _ => none)) ?_
  intro a ha
  refine Eq.mpr ?_ (@r01_right.main a)
  kernel_rfl
theorem r01_Size.l0_ok (l : List Tm) (ha : Sp.okL l) : r01_Size.l0 l := by
  rintro l1 n d i ⟨e, h1, h2, h3, h4, h5, h6⟩ hs
  subst l1
  refine ifD (fun h => ?_) fun h => ?_
  · have hi : i.toNat < l.length := by omega
    have hk := Sp.nodesL_mem (nth_mem (d := default) hi)
    have hd := Sp.depthL_le (nth default l i).kids
    have e := nth_drop (d := default) hi
    have hT := Sp.depthT_eq (nth default l i)
    have e1 : (i + 1).toNat = i.toNat + 1 := by omega
    rw [e] at h5 ⊢
    simp only [Sp.nodesL, Sp.depthL, Sp.nodesT_eq, e1] at h5 ⊢
    unfold Sp.okL at *
    refine ⟨by omega, ⟨by omega, by omega⟩, fun n' d' hnd => ?_⟩
    simp only [Prod.mk.injEq] at hnd
    obtain ⟨rfl, rfl⟩ := hnd
    refine ⟨by omega, fun _ => by omega, fun _ => by omega, ifB_of (fun hb => ?_) fun hb => ?_⟩
    · simp only [Bool.and_eq_true, Bool.or_eq_true, Bool.not_eq_true', Bool.or_eq_false_iff, Bool.and_eq_false_iff, Bool.not_eq_false', decide_eq_true_eq, decide_eq_false_iff_not, mk_empty] at hb
      rw [if_pos (by omega)] at hT
      refine ⟨inR64 (by omega), inR64 (by omega), inR64 (by omega), inR64 (by omega), ⟨trivial, by omega⟩, by omega, ?_⟩
      simp only [hT, LOut.brk.injEq, Prod.mk.injEq]
      refine ⟨by omega, ?_, trivial⟩
      rw [Int.max_assoc]; omega
    · simp only [Bool.and_eq_true, Bool.or_eq_true, Bool.not_eq_true', Bool.or_eq_false_iff, Bool.and_eq_false_iff, Bool.not_eq_false', decide_eq_true_eq, decide_eq_false_iff_not, mk_empty] at hb
      rw [if_neg (by omega)] at hT
      refine ⟨inR64 (by omega), inR64 (by omega), inR64 (by omega), ⟨trivial, by omega⟩, by omega, ?_⟩
      simp only [hT, LOut.brk.injEq, Prod.mk.injEq]
      refine ⟨by omega, ?_, trivial⟩
      rw [Int.max_assoc]; omega
  · rw [List.drop_eq_nil_of_le (by omega)]
    simp only [Sp.nodesL, Sp.depthL, LOut.brk.injEq, Prod.mk.injEq]
    omega
theorem r01_Size.main (l : List Tm) (ha : Sp.okL l) : r01_Size.t l := by
  refine ⟨⟨rfl, by omega, by omega, by omega, by omega, by simp, by omega⟩, r01_Size.l0_ok l ha, fun n d i h => ?_⟩
  simp only [LOut.brk.injEq, Prod.mk.injEq, Int.toNat_zero, List.drop_zero] at h ⊢
  omega
theorem r01_Size.ok (W : World) : CtrOK Go.Proofs.Try.prog W 72 r01_Size.C := by
  refine funOK_rec (fun (l : (List Tm)) => Sp.nodesL l) (l := []) (fun p hp => by cases hp) (Λ := fun a_ => match a_ with | l => (r01_Size.Λ l)) (Λr := fun a_ => match a_ with | l => (fun _ => none)) ?_
  intro a ha
  refine Eq.mpr ?_ (@r01_Size.main a ha)
  kernel_rfl
theorem r01_form.l0_ok (l : List Tm) (most : Int) : r01_form.l0 l most := by
  rintro l1 m i ⟨e, e', h1, h2⟩ hs
  subst l1 m
  refine ifD (fun h => ?_) fun h => ?_
  · have hi : i.toNat < l.length := by omega
    have hk := Sp.nodesL_mem (nth_mem (d := default) hi)
    have e := nth_drop (d := default) hi
    have e1 : (i + 1).toNat = i.toNat + 1 := by omega
    rw [e]
    simp only [Sp.formL, Sp.formT_eq, e1, forall_eq']
    refine ⟨by omega, fun _ => by omega, fun _ => by omega, fun _ => ⟨trivial, by omega⟩, ifB_of (fun hb => ?_) fun hb => ⟨inR64 (by omega), ⟨trivial, trivial, by omega⟩, by omega, ?_⟩⟩
    · simp at hb
      rw [if_neg]
      rcases hb with (hb | hb) | hb
      · simp [hb]
      · simp [show ¬ (nth default l i).kind ≤ most by omega]
      · simp [hb]
    · simp at hb; simp [hb]
  · rw [List.drop_eq_nil_of_le (by omega)]; simp only [Sp.formL, if_true]; congr 1; omega
theorem r01_form.main (l : List Tm) (most : Int) : r01_form.t l most := by
  refine ⟨⟨rfl, rfl, by omega⟩, r01_form.l0_ok l most, fun i hi => ?_, fun b hb => ?_⟩
  · split at hi
    · rename_i h; simpa using h
    · simp at hi
  · split at hb
    · simp at hb
    · rename_i h; simp at h hb; simp [h, hb]
theorem r01_form.ok (W : World) : CtrOK Go.Proofs.Try.prog W 86 r01_form.C := by
  refine funOK_rec (fun (a_ : (List Tm) × Int) => match a_ with | (l, most) => Sp.nodesL l) (l := [(101, r01_right.C)]) (fun p hp => by
    simp only [List.mem_cons, List.not_mem_nil, or_false] at hp
    subst hp; exact r01_right.ok W) (Λ := fun a_ => match a_ with | (l, most) => (r01_form.Λ l most)) (Λr := fun a_ => match a_ with | (l, most) => (fun _ => none)) ?_
  intro a ha
  obtain ⟨l, most⟩ := a
  refine Eq.mpr ?_ (@r01_form.main l most)
  kernel_rfl
theorem r01_wrong.main (l : List Tm) (most : Int) (ha : Sp.okL l) : r01_wrong.t l most := by
  refine ⟨ha, fun n d h => ?_⟩
  simp only [Prod.mk.injEq] at h
  obtain ⟨rfl, rfl⟩ := h
  unfold Sp.wrong
  refine ifD (fun h1 => by rw [if_pos (by omega)]) fun h1 => ?_
  rw [if_neg (by omega)]
  refine ifD (fun h2 => by rw [if_pos (by omega)]) fun h2 => ?_
  rw [if_neg (by omega)]
  intro b hb
  subst hb
  cases h : Sp.formL l most <;> simp
theorem r01_wrong.ok (W : World) : CtrOK Go.Proofs.Try.prog W 65 r01_wrong.C := by
  refine funOK (Γ := lookC [(72, r01_Size.C), (86, r01_form.C)]) (lookC_ok (fun p hp => by
    simp only [List.mem_cons, List.not_mem_nil, or_false] at hp
    rcases hp with rfl | rfl
    · exact r01_Size.ok W
    · exact r01_form.ok W)) (Λ := fun a_ => match a_ with | (l, most) => (fun _ => none)) (Λr := fun a_ => match a_ with | (l, most) => (fun _ => none)) ?_
  intro a ha
  obtain ⟨l, most⟩ := a
  refine Eq.mpr ?_ (@r01_wrong.main l most ha)
  kernel_rfl
theorem r01_Value.main (l : List Tm) (ha : Sp.okL l) : r01_Value.t l := ⟨ha, fun i h => h⟩
theorem r01_Value.ok (W : World) : CtrOK Go.Proofs.Try.prog W 35 r01_Value.C := by
  refine funOK (Γ := lookC [(65, r01_wrong.C)]) (lookC_ok (fun p hp => by
    simp only [List.mem_cons, List.not_mem_nil, or_false] at hp
    subst hp; exact r01_wrong.ok W)) (Λ := fun a_ => match a_ with | l => (fun _ => none)) (Λr := fun a_ => match a_ with | l => (fun _ => none)) ?_
  intro a ha
  refine Eq.mpr ?_ (@r01_Value.main a ha)
  kernel_rfl
theorem r01_Sign.main (a b : ByteArray) : r01_Sign.t a b := by
  unfold r01_Sign.t Sp.sign
  refine ifB_of (fun h => by simp [h]) fun h => ifB_of (fun h1 => ?_) fun h1 => ?_
  · simp at h1; simp [h1]
  · simp [h] at h1; subst h1; simp [h]
theorem r01_Sign.ok (W : World) : CtrOK Go.Proofs.Try.prog W 66 r01_Sign.C := by
  refine funOK (Γ := lookC []) (lookC_ok (fun p hp => by cases hp)) (Λ := fun a_ => match a_ with | (a, b) => (fun _ => none)) (Λr := fun a_ => match a_ with | (a, b) => (fun _ => none)) ?_
  intro a ha
  obtain ⟨a, b⟩ := a
  refine Eq.mpr ?_ (@r01_Sign.main a b)
  kernel_rfl
theorem r01_Compare.l0_ok (a b : List Tm) : r01_Compare.l0 a b := by
  rintro l1 l2 i ⟨e, e', h1, h2, h3⟩ hs
  subst l1 l2
  refine ifB_of (fun h => ?_) fun h => ?_
  · simp at h
    have hi : i.toNat < a.length := by omega
    have hj : i.toNat < b.length := by omega
    have hk := Sp.nodesL_mem (nth_mem (d := default) hi)
    have e1 : (i + 1).toNat = i.toNat + 1 := by omega
    rw [nth_drop (d := default) hi, nth_drop (d := default) hj]
    simp only [Sp.pfx, Sp.cmpT_eq, e1, forall_eq']
    refine ⟨by omega, by omega, ifN (fun h4 => ⟨by omega, by omega, ifD (fun h5 => ?_) fun h5 => ?_⟩) fun h4 => ⟨by omega, by omega, ifN (fun h5 => ?_) fun h5 => ⟨by omega, by omega, ⟨trivial, by omega⟩, ifN (fun h6 => ?_) fun h6 => ⟨inR64 (by omega), ⟨trivial, trivial, by omega⟩, by omega, ?_⟩⟩⟩⟩
    · simp [h4, h5]
    · simp [h4, h5]
    · simp [h4, h5]
    · simp [h4, h5, h6]
    · simp [h4, h5, h6]
  · simp only [Bool.and_eq_true, Bool.or_eq_true, Bool.not_eq_true', Bool.or_eq_false_iff, Bool.and_eq_false_iff, Bool.not_eq_false', decide_eq_true_eq, decide_eq_false_iff_not, mk_empty] at h
    rw [Sp.pfx_end (h.imp (fun h => List.drop_eq_nil_of_le (by omega)) fun h => List.drop_eq_nil_of_le (by omega)), if_pos rfl]
    congr 1; omega
theorem r01_Compare.main (a b : List Tm) : r01_Compare.t a b := by
  refine ⟨⟨rfl, rfl, by omega⟩, r01_Compare.l0_ok a b, fun i hi => fun h1 h2 => ?_, fun i hi => ?_⟩
  · split at hi
    · rename_i h
      simp only [Int.toNat_zero, List.drop_zero] at h
      rw [Sp.cmpL_pfx, if_pos h]
      refine ifD (fun h3 => by rw [if_pos (by omega)]) fun h3 => ?_
      rw [if_neg (by omega)]
      exact fun _ _ => ifD (fun h3 => by rw [if_pos (by omega)]) fun h3 => by rw [if_neg (by omega)]
    · simp at hi
  · split at hi
    · simp at hi
    · rename_i h
      simp only [Int.toNat_zero, List.drop_zero] at h hi
      rw [Sp.cmpL_pfx, if_neg h]
      simpa using hi
theorem r01_Compare.ok (W : World) : CtrOK Go.Proofs.Try.prog W 37 r01_Compare.C := by
  refine funOK_rec (fun (a_ : (List Tm) × (List Tm)) => match a_ with | (a, b) => Sp.nodesL a) (l := [(66, r01_Sign.C)]) (fun p hp => by
    simp only [List.mem_cons, List.not_mem_nil, or_false] at hp
    subst hp; exact r01_Sign.ok W) (Λ := fun a_ => match a_ with | (a, b) => (r01_Compare.Λ a b)) (Λr := fun a_ => match a_ with | (a, b) => (fun _ => none)) ?_
  intro a ha
  obtain ⟨a, b⟩ := a
  refine Eq.mpr ?_ (@r01_Compare.main a b)
  kernel_rfl
theorem r01_Equal.main (a b : List Tm) : r01_Equal.t a b := by
  rintro i rfl; rfl
theorem r01_Equal.ok (W : World) : CtrOK Go.Proofs.Try.prog W 14 r01_Equal.C := by
  refine funOK (Γ := lookC [(37, r01_Compare.C)]) (lookC_ok (fun p hp => by
    simp only [List.mem_cons, List.not_mem_nil, or_false] at hp
    subst hp; exact r01_Compare.ok W)) (Λ := fun a_ => match a_ with | (a, b) => (fun _ => none)) (Λr := fun a_ => match a_ with | (a, b) => (fun _ => none)) ?_
  intro a ha
  obtain ⟨a, b⟩ := a
  refine Eq.mpr ?_ (@r01_Equal.main a b)
  kernel_rfl
end Go.AL
