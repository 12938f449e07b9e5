/- Functions of the program: what they return, and that they do. -/
import Derived.Test.YtiolpppbnbboiaaGroupA
import Derived.Test.YtiolpppbnbboiaaProg
import Derived.KernelRfl
import Derived.Test.YtiolpppbnbboiaaEvalC

namespace Go.AL
set_option linter.unusedVariables false
end Go.AL
namespace Sp
open Go.AL
-- The number of terms, as far as a bound; n are counted already.
mutual
def cntT : Tm → Int → Int → Int
  | .mk _ _ ks, left, depth => cntL ks 0 left depth
def cntL : List Tm → Int → Int → Int → Int
  | [], n, _, _ => n
  | t :: l, n, left, depth => if left < n then n else if 150 < depth then left + 1 else cntL l (n + (1 + cntT t (left - n - 1) (depth + 1))) left depth
end
mutual
theorem cntT_le : (t : Tm) → (left depth : Int) → -1 ≤ left → 0 ≤ cntT t left depth ∧ cntT t left depth ≤ left + 1
  | .mk k s ks, left, depth, h => by rw [cntT]; exact cntL_le ks 0 left depth (by omega) (by omega)
theorem cntL_le : (l : List Tm) → (n left depth : Int) → 0 ≤ n → n ≤ left + 1 → 0 ≤ cntL l n left depth ∧ cntL l n left depth ≤ left + 1
  | [], n, left, depth, h1, h2 => by rw [cntL]; omega
  | t :: l, n, left, depth, h1, h2 => by
    rw [cntL]
    split
    · omega
    · split
      · omega
      · have := cntT_le t (left - n - 1) (depth + 1) (by omega)
        exact cntL_le l _ left depth (by omega) (by omega)
end
theorem cntT_eq (t : Tm) (left depth : Int) : cntT t left depth = cntL t.kids 0 left depth := by cases t; rfl
mutual
def shortT : Tm → Bool
  | .mk _ s ks => decide ((s.size : Int) ≤ 600) && shortL ks
def shortL : List Tm → Bool
  | [] => true
  | t :: l => shortT t && shortL l
end
theorem shortT_eq (t : Tm) : shortT t = (decide ((t.text.size : Int) ≤ 600) && shortL t.kids) := by cases t; rfl
def small (l : List Tm) (most : Int) : Bool := decide (cntL l 0 most 0 ≤ most) && shortL l
def find (l : List Blk) (s : ByteArray) : Int :=
  match l with
  | [] => -1
  | b :: l => if b.label = s then 0 else if find l s = -1 then -1 else find l s + 1
def zeroT (t : Tm) : Bool := decide (t.kind = 0) && decide (t.text = ByteArray.empty) && decide ((t.kids.length : Int) = 0)
def cmdErr (l : List Blk) (c : Cmd) : Int :=
  if c.kind < 1 ∨ 5 < c.kind then 340 else
  if (c.kind = 1 ∨ c.kind = 3) ∧ ¬ (sym c.sym = true ∧ wrong [c.sym] 4 = 0) then 340 else
  if ¬ (c.kind = 1 ∨ c.kind = 3) ∧ ¬ zeroT c.sym = true then 340 else
  if ¬ (c.kind = 2 ∨ c.kind = 3 ∨ c.kind = 4) ∧ c.label ≠ ByteArray.empty then 340 else
  if (c.kind = 2 ∨ c.kind = 3 ∨ c.kind = 4) ∧ find l c.label < 0 then 9 else 0
def wrd (s : ByteArray) : Tm := .mk 2 s []
def cmdsErr (l : List Blk) : List Cmd → Int
  | [] => 0
  | c :: cs => if cmdErr l c = 0 then cmdsErr l cs else cmdErr l c
def blksErr (l : List Blk) : List Blk → Int
  | [] => 0
  | b :: bs => if cmdsErr l b.cmds = 0 then blksErr l bs else cmdsErr l b.cmds
def labErr (l : List Blk) : List Blk → Int → Int
  | [], _ => 0
  | b :: bs, i => if wrong [wrd b.label] 4 = 0 then (if find l b.label = i then labErr l bs (i + 1) else 10) else 340
def check (l : List Blk) : Int :=
  if l.length < 1 ∨ 30 < l.length then 5 else
  if l.any (fun b => decide (30 < b.cmds.length)) then 5 else
  if labErr l l 0 = 0 then blksErr l l else labErr l l 0
/-- What the loop of the count ends with. -/
def cntO : List Tm → Int → Int → Int → Int → LOut (Int × Int) Int
  | [], n, _, _, i => .brk (n, i)
  | t :: l, n, left, depth, i => if left < n then .brk (n, i) else if 150 < depth then .ret (left + 1) else cntO l (n + (1 + cntT t (left - n - 1) (depth + 1))) left depth (i + 1)
theorem cntO_brk : ∀ (l : List Tm) (n left depth i x j : Int), cntO l n left depth i = .brk (x, j) → cntL l n left depth = x
  | [], n, left, depth, i, x, j, h => by simp only [cntO, LOut.brk.injEq, Prod.mk.injEq] at h; rw [cntL]; exact h.1
  | t :: l, n, left, depth, i, x, j, h => by
    rw [cntO] at h; rw [cntL]
    split at h
    · rename_i h1; rw [if_pos h1]; simp only [LOut.brk.injEq, Prod.mk.injEq] at h; exact h.1
    · rename_i h1; rw [if_neg h1]
      split at h
      · cases h
      · rename_i h2; rw [if_neg h2]; exact cntO_brk l _ left depth _ x j h
theorem cntO_ret : ∀ (l : List Tm) (n left depth i x : Int), cntO l n left depth i = .ret x → cntL l n left depth = x
  | [], n, left, depth, i, x, h => by simp only [cntO] at h; cases h
  | t :: l, n, left, depth, i, x, h => by
    rw [cntO] at h; rw [cntL]
    split at h
    · cases h
    · rename_i h1; rw [if_neg h1]
      split at h
      · rename_i h2; rw [if_pos h2]; simpa using h
      · rename_i h2; rw [if_neg h2]; exact cntO_ret l _ left depth _ x h
theorem find_in : ∀ (l : List Blk) (s : ByteArray), find l s = -1 ∨ 0 ≤ find l s ∧ find l s < l.length
  | [], s => .inl rfl
  | b :: l, s => by
    rw [find]
    have := find_in l s
    simp only [List.length_cons]
    split
    · omega
    · split <;> omega
/-- Rounds, up to so many. -/
def iter {S O : Type} (step : S → S ⊕ O) (d : O) : Nat → S → O
  | 0, _ => d
  | k + 1, s => match step s with
    | .inl s' => iter step d k s'
    | .inr o => o
theorem iter_inl {S O : Type} {step : S → S ⊕ O} {d : O} {k : Nat} {s s' : S} (h : step s = .inl s') : iter step d (k + 1) s = iter step d k s' := by rw [iter, h]
theorem iter_inr {S O : Type} {step : S → S ⊕ O} {d : O} {k : Nat} {s : S} {o : O} (h : step s = .inr o) : iter step d (k + 1) s = o := by rw [iter, h]
abbrev RS := List Tm × List Tm × Int × Int × Int × Int × ByteArray × List Tm
abbrev RO := LOut RS (List Tm × Int × Int)
/-- A command of the reference's run. -/
def refStep (l : List Blk) (fuel : Int) : RS → RS ⊕ RO
  | (inp, out, block, at_, n, pk, pt, pl) =>
    let cs := (nth default l block).cmds
    if at_ < cs.length then
      if n = fuel then .inr (.ret ([], 0, 8)) else
      let c := nth default cs at_
      let jump : RS := (inp, out, find l c.label, 0, n + 1, pk, pt, pl)
      if c.kind = 1 then (if 4000 < out.length + 1 then .inr (.ret ([], 0, 7)) else .inl (inp, out ++ [c.sym], block, at_ + 1, n + 1, pk, pt, pl)) else
      if c.kind = 2 then (if inp.length = 0 then .inl jump else if (nth default inp 0).kind = 4 then .inr (.ret ([], 0, 20)) else .inl (inp.drop 1, out, block, at_ + 1, n + 1, (nth default inp 0).kind, (nth default inp 0).text, (nth default inp 0).kids)) else
      if c.kind = 3 then (if cmpL [.mk pk pt pl] [c.sym] = 0 then .inl jump else .inl (inp, out, block, at_ + 1, n + 1, pk, pt, pl)) else
      if c.kind = 4 then .inl jump else
      if c.kind = 5 then .inr (.ret (out, n + 1, 0)) else .inl (inp, out, block, at_ + 1, n + 1, pk, pt, pl)
    else .inr (.brk (inp, out, block, at_, n, pk, pt, pl))
def startW : ByteArray := ⟨#[83, 116, 97, 114, 116]⟩
def refRun (l : List Blk) (inp : List Tm) (fuel : Int) : List Tm × Int × Int :=
  if check l ≠ 0 then ([], 0, check l) else
  if wrong inp 4 ≠ 0 then ([], 0, wrong inp 4) else
  if fuel < 0 ∨ 100000 < fuel then ([], 0, 4) else
  match iter (refStep l fuel) (.ret ([], 0, 0)) (fuel.toNat + 1) (inp, [], 0, 0, 0, 2, startW, []) with
  | .brk (_, out, _, _, n, _) => (out, n, 0)
  | .ret r => r
  | .ext _ _ => ([], 0, 0)
def letters : List ByteArray := [⟨#[]⟩, ⟨#[79]⟩, ⟨#[82]⟩, ⟨#[69]⟩, ⟨#[71]⟩, ⟨#[72]⟩]
def encC (c : Cmd) : Tm := .mk 4 ⟨#[]⟩ (([wrd (nth default letters c.kind)] ++ if c.kind = 1 ∨ c.kind = 3 then [c.sym] else []) ++ if c.label = ByteArray.empty then [] else [wrd c.label])
def encB (b : Blk) : Tm := .mk 4 ⟨#[]⟩ ([wrd b.label] ++ b.cmds.map encC)
def encP (l : List Blk) : List Tm := l.map encB
def intW : ByteArray := ⟨#[73, 110, 116]⟩
def callP (l : List Blk) (inp : List Tm) : List Tm × Int :=
  let x : List Tm := [.mk 8 intW ([.mk 4 ⟨#[]⟩ (encP l), wrd (nth default l 0).label] ++ inp)]
  if 4000 < nodesL x then ([], 7) else if 100 < depthL x then ([], 6) else (x, 0)
def inpW : List Tm := [.mk 7 ⟨#[105, 110, 112, 117, 116]⟩ []]
end Sp
namespace Go.AL

def r01_Copy.L0 : LD := { cs := [0], cts := [.lst (.nm 0)], pts := [], vs := [3, 4], os := [], vts := [.lst (.nm 0), .int .i64], own := [true, false], ro := [0, 2, 6], nx := 100 }
def r01_Copy.Λ (l : (List Tm)) : Nat → Option (Loop (ElT [.lst (.nm 0)])) := fun id =>
  if id = 0 then some (mkLoop r01_Copy.L0
    (fun (c_ : (List Tm)) (s_ : (List Tm) × Int) => match c_, s_ with | c_l, (out, i) => c_l = l ∧ 0 ≤ i ∧ i ≤ l.length ∧ out = l.take i.toNat)
    (fun (c_ : (List Tm)) (s_ : (List Tm) × Int) => match c_, s_ with | c_l, (out, i) => (l.length - i : Int).toNat)
    (fun (c_ : (List Tm)) (s_ : (List Tm) × Int) => match c_, s_ with | c_l, (out, i) => .brk (l, (l.length : Int))) [] false) else
  none
def r01_Copy.C : Ctr := pureCtr [.lst (.nm 0)] [.lst (.nm 0)] (some (fun (l : (List Tm)) => Sp.okL l)) (fun (l : (List Tm)) => (l))
def l09_nodes.L0 : LD := { cs := [0, 1, 2], cts := [.lst (.nm 0), .int .i64, .int .i64], pts := [], vs := [7, 8], os := [], vts := [.int .i64, .int .i64], own := [false, false], ro := [0, 1, 2], nx := 100 }
def l09_nodes.Λ (l : (List Tm)) (left : Int) (depth : Int) : Nat → Option (Loop (ElT [.int .i64])) := fun id =>
  if id = 0 then some (mkLoop l09_nodes.L0
    (fun (c_ : (List Tm) × Int × Int) (s_ : Int × Int) => match c_, s_ with | (c_l, c_left, c_depth), (n, i) => c_l = l ∧ c_left = left ∧ c_depth = depth ∧ 0 ≤ i ∧ i ≤ l.length ∧ 0 ≤ n ∧ n ≤ left + 1)
    (fun (c_ : (List Tm) × Int × Int) (s_ : Int × Int) => match c_, s_ with | (c_l, c_left, c_depth), (n, i) => (l.length - i : Int).toNat)
    (fun (c_ : (List Tm) × Int × Int) (s_ : Int × Int) => match c_, s_ with | (c_l, c_left, c_depth), (n, i) => Sp.cntO (l.drop i.toNat) n left depth i) [] true) else
  none
def l09_nodes.C : Ctr := pureCtr [.lst (.nm 0), .int .i64, .int .i64] [.int .i64] (some (fun (a_ : (List Tm) × Int × Int) => match a_ with | (l, left, depth) => -1 ≤ left ∧ left ≤ 1000000 ∧ 0 ≤ depth ∧ depth ≤ 151)) (fun (a_ : (List Tm) × Int × Int) => match a_ with | (l, left, depth) => (Sp.cntL l 0 left depth))
def l09_short.L0 : LD := { cs := [0], cts := [.lst (.nm 0)], pts := [], vs := [3], os := [], vts := [.int .i64], own := [false], ro := [0], nx := 100 }
def l09_short.Λ (l : (List Tm)) : Nat → Option (Loop (ElT [.bool])) := fun id =>
  if id = 0 then some (mkLoop l09_short.L0
    (fun (c_ : (List Tm)) (s_ : Int) => match c_, s_ with | c_l, i => c_l = l ∧ 0 ≤ i ∧ i ≤ l.length)
    (fun (c_ : (List Tm)) (s_ : Int) => match c_, s_ with | c_l, i => (l.length - i : Int).toNat)
    (fun (c_ : (List Tm)) (s_ : Int) => match c_, s_ with | c_l, i => if Sp.shortL (l.drop i.toNat) then .brk (l.length : Int) else .ret false) [] true) else
  none
def l09_short.C : Ctr := pureCtr [.lst (.nm 0)] [.bool] none (fun (l : (List Tm)) => (Sp.shortL l))
def l09_Small.C : Ctr := pureCtr [.lst (.nm 0), .int .i64] [.bool] (some (fun (a_ : (List Tm) × Int) => match a_ with | (l, most) => -1 ≤ most ∧ most ≤ 1000000)) (fun (a_ : (List Tm) × Int) => match a_ with | (l, most) => (Sp.small l most))
def r32_find.L0 : LD := { cs := [0, 1], cts := [.lst (.nm 2), .str], pts := [], vs := [5], os := [], vts := [.int .i64], own := [false], ro := [0, 1], nx := 100 }
def r32_find.Λ (l : (List Blk)) (s : ByteArray) : Nat → Option (Loop (ElT [.int .i64])) := fun id =>
  if id = 0 then some (mkLoop r32_find.L0
    (fun (c_ : (List Blk) × ByteArray) (s_ : Int) => match c_, s_ with | (c_l, c_s), i => c_l = l ∧ c_s = s ∧ 0 ≤ i ∧ i ≤ l.length)
    (fun (c_ : (List Blk) × ByteArray) (s_ : Int) => match c_, s_ with | (c_l, c_s), i => (l.length - i : Int).toNat)
    (fun (c_ : (List Blk) × ByteArray) (s_ : Int) => match c_, s_ with | (c_l, c_s), i => if Sp.find (l.drop i.toNat) s = -1 then .brk (l.length : Int) else .ret (i + Sp.find (l.drop i.toNat) s)) [] true) else
  none
def r32_find.C : Ctr := pureCtr [.lst (.nm 2), .str] [.int .i64] none (fun (a_ : (List Blk) × ByteArray) => match a_ with | (l, s) => (Sp.find l s))
def r32_command.C : Ctr := pureCtr [.lst (.nm 2), .nm 1] [.int .i64] (some (fun (a_ : (List Blk) × Cmd) => match a_ with | (l, c) => Sp.okL [c.sym])) (fun (a_ : (List Blk) × Cmd) => match a_ with | (l, c) => (Sp.cmdErr l c))
def r32_Check.L0 : LD := { cs := [0], cts := [.lst (.nm 2)], pts := [], vs := [3], os := [], vts := [.int .i64], own := [false], ro := [0, 8, 9, 10, 11, 12, 13, 14, 15], nx := 100 }
def r32_Check.L2 : LD := { cs := [0], cts := [.lst (.nm 2)], pts := [], vs := [4], os := [], vts := [.int .i64], own := [false], ro := [3, 0, 8, 9, 10, 11, 12, 13, 14, 15], nx := 200 }
def r32_Check.L4 : LD := { cs := [0], cts := [.lst (.nm 2)], pts := [], vs := [5], os := [], vts := [.int .i64], own := [false], ro := [4, 3, 0, 8, 9, 10, 11, 12, 13, 14, 15], nx := 300 }
def r32_Check.L6 : LD := { cs := [0, 5], cts := [.lst (.nm 2), .int .i64], pts := [], vs := [6], os := [], vts := [.int .i64], own := [false], ro := [0, 5, 53, 54, 55, 56, 4, 3, 8, 9, 10, 11, 12, 13, 14, 15], nx := 400 }
def r32_Check.Λ (l : (List Blk)) : Nat → Option (Loop (ElT [.int .i64])) := fun id =>
  if id = 0 then some (mkLoop r32_Check.L0
    (fun (c_ : (List Blk)) (s_ : Int) => match c_, s_ with | c_l, i => c_l = l ∧ 0 ≤ i ∧ i ≤ l.length)
    (fun (c_ : (List Blk)) (s_ : Int) => match c_, s_ with | c_l, i => (l.length - i : Int).toNat)
    (fun (c_ : (List Blk)) (s_ : Int) => match c_, s_ with | c_l, i => if (l.drop i.toNat).any (fun b => decide (30 < b.cmds.length)) then .ret 5 else .brk (l.length : Int)) [] true) else
  if id = 2 then some (mkLoop r32_Check.L2
    (fun (c_ : (List Blk)) (s_ : Int) => match c_, s_ with | c_l, i => c_l = l ∧ 0 ≤ i ∧ i ≤ l.length)
    (fun (c_ : (List Blk)) (s_ : Int) => match c_, s_ with | c_l, i => (l.length - i : Int).toNat)
    (fun (c_ : (List Blk)) (s_ : Int) => match c_, s_ with | c_l, i => if Sp.labErr l (l.drop i.toNat) i = 0 then .brk (l.length : Int) else .ret (Sp.labErr l (l.drop i.toNat) i)) [] true) else
  if id = 4 then some (mkLoop r32_Check.L4
    (fun (c_ : (List Blk)) (s_ : Int) => match c_, s_ with | c_l, i => c_l = l ∧ 0 ≤ i ∧ i ≤ l.length)
    (fun (c_ : (List Blk)) (s_ : Int) => match c_, s_ with | c_l, i => (l.length - i : Int).toNat)
    (fun (c_ : (List Blk)) (s_ : Int) => match c_, s_ with | c_l, i => if Sp.blksErr l (l.drop i.toNat) = 0 then .brk (l.length : Int) else .ret (Sp.blksErr l (l.drop i.toNat))) [] true) else
  if id = 6 then some (mkLoop r32_Check.L6
    (fun (c_ : (List Blk) × Int) (s_ : Int) => match c_, s_ with | (c_l, i), k => c_l = l ∧ 0 ≤ i ∧ i < l.length ∧ 0 ≤ k ∧ k ≤ (nth default l i).cmds.length)
    (fun (c_ : (List Blk) × Int) (s_ : Int) => match c_, s_ with | (c_l, i), k => ((nth default l i).cmds.length - k : Int).toNat)
    (fun (c_ : (List Blk) × Int) (s_ : Int) => match c_, s_ with | (c_l, i), k => if Sp.cmdsErr l ((nth default l i).cmds.drop k.toNat) = 0 then .brk ((nth default l i).cmds.length : Int) else .ret (Sp.cmdsErr l ((nth default l i).cmds.drop k.toNat))) [] true) else
  none
def r32_Check.C : Ctr := pureCtr [.lst (.nm 2)] [.int .i64] (some (fun (l : (List Blk)) => ∀ b ∈ l, ∀ c ∈ b.cmds, Sp.okL [c.sym])) (fun (l : (List Blk)) => (Sp.check l))
def r32_word.C : Ctr := pureCtr [.str] [.nm 0] none (fun (s : ByteArray) => (Sp.wrd s))
def r32_Run.L0 : LD := { cs := [0, 2], cts := [.lst (.nm 2), .int .i64], pts := [(12, (.loc 0 0))], vs := [1, 11, 13, 14, 15], os := [(0, .plain, [none, none, none])], vts := [.lst (.nm 0), .lst (.nm 0), .int .i64, .int .i64, .int .i64, .int .i64, .str, .lst (.nm 0)], own := [false, true, false, false, false, false, false, false], ro := [0, 2, 18, 19, 9, 20, 21, 23, 24, 10, 25, 26, 28, 29, 30, 31, 32, 33, 34, 12], nx := 100 }
def r32_Run.Λ (l : (List Blk)) (input : (List Tm)) (fuel : Int) : Nat → Option (Loop (ElT [.lst (.nm 0), .int .i64, .int .i64])) := fun id =>
  if id = 0 then some (mkLoop r32_Run.L0
    (fun (c_ : (List Blk) × Int) (s_ : (List Tm) × (List Tm) × Int × Int × Int × Int × ByteArray × (List Tm)) => match c_, s_ with | (c_l, c_fuel), (inp, out, block, at_, n, pk, pt, pl) => c_l = l ∧ c_fuel = fuel ∧ 0 ≤ block ∧ block < l.length ∧ 0 ≤ at_ ∧ at_ ≤ (nth default l block).cmds.length ∧ 0 ≤ n ∧ n ≤ fuel ∧ out.length ≤ 4000)
    (fun (c_ : (List Blk) × Int) (s_ : (List Tm) × (List Tm) × Int × Int × Int × Int × ByteArray × (List Tm)) => match c_, s_ with | (c_l, c_fuel), (inp, out, block, at_, n, pk, pt, pl) => (fuel - n : Int).toNat)
    (fun (c_ : (List Blk) × Int) (s_ : (List Tm) × (List Tm) × Int × Int × Int × Int × ByteArray × (List Tm)) => match c_, s_ with | (c_l, c_fuel), (inp, out, block, at_, n, pk, pt, pl) => Sp.iter (Sp.refStep l fuel) (.ret ([], 0, 0)) ((fuel - n).toNat + 1) (inp, out, block, at_, n, pk, pt, pl)) [] true) else
  none
def r32_Run.C : Ctr := pureCtr [.lst (.nm 2), .lst (.nm 0), .int .i64] [.lst (.nm 0), .int .i64, .int .i64] (some (fun (a_ : (List Blk) × (List Tm) × Int) => match a_ with | (l, input, fuel) => (∀ b ∈ l, ∀ c ∈ b.cmds, Sp.okL [c.sym]) ∧ Sp.okL input)) (fun (a_ : (List Blk) × (List Tm) × Int) => match a_ with | (l, input, fuel) => (Sp.refRun l input fuel))
def r32_encode.L0 : LD := { cs := [0, 4], cts := [.lst (.nm 2), .lst (.str)], pts := [], vs := [3, 5], os := [], vts := [.lst (.nm 0), .int .i64], own := [true, false], ro := [0, 2, 10, 4], nx := 100 }
def r32_encode.L2 : LD := { cs := [0, 4, 5], cts := [.lst (.nm 2), .lst (.str), .int .i64], pts := [], vs := [6, 7], os := [], vts := [.lst (.nm 0), .int .i64], own := [true, false], ro := [0, 4, 3, 5, 11, 12, 13, 14, 17, 18, 19, 20, 21, 22, 23, 2, 10], nx := 200 }
def r32_encode.Λ (l : (List Blk)) : Nat → Option (Loop (ElT [.lst (.nm 0)])) := fun id =>
  if id = 0 then some (mkLoop r32_encode.L0
    (fun (c_ : (List Blk) × (List ByteArray)) (s_ : (List Tm) × Int) => match c_, s_ with | (c_l, le), (out, i) => c_l = l ∧ le = Sp.letters ∧ 0 ≤ i ∧ i ≤ l.length ∧ out = Sp.encP (l.take i.toNat))
    (fun (c_ : (List Blk) × (List ByteArray)) (s_ : (List Tm) × Int) => match c_, s_ with | (c_l, le), (out, i) => (l.length - i : Int).toNat)
    (fun (c_ : (List Blk) × (List ByteArray)) (s_ : (List Tm) × Int) => match c_, s_ with | (c_l, le), (out, i) => .brk (Sp.encP l, (l.length : Int))) [] false) else
  if id = 2 then some (mkLoop r32_encode.L2
    (fun (c_ : (List Blk) × (List ByteArray) × Int) (s_ : (List Tm) × Int) => match c_, s_ with | (c_l, le, i), (kids, k) => c_l = l ∧ le = Sp.letters ∧ 0 ≤ i ∧ i < l.length ∧ 0 ≤ k ∧ k ≤ (nth default l i).cmds.length ∧ kids = [Sp.wrd (nth default l i).label] ++ ((nth default l i).cmds.take k.toNat).map Sp.encC)
    (fun (c_ : (List Blk) × (List ByteArray) × Int) (s_ : (List Tm) × Int) => match c_, s_ with | (c_l, le, i), (kids, k) => ((nth default l i).cmds.length - k : Int).toNat)
    (fun (c_ : (List Blk) × (List ByteArray) × Int) (s_ : (List Tm) × Int) => match c_, s_ with | (c_l, le, i), (kids, k) => .brk ([Sp.wrd (nth default l i).label] ++ (nth default l i).cmds.map Sp.encC, ((nth default l i).cmds.length : Int))) [] false) else
  none
def r32_encode.C : Ctr := pureCtr [.lst (.nm 2)] [.lst (.nm 0)] (some (fun (l : (List Blk)) => (∀ b ∈ l, b.cmds.length ≤ 30 ∧ ∀ c ∈ b.cmds, 0 ≤ c.kind ∧ c.kind ≤ 5) ∧ l.length ≤ 30)) (fun (l : (List Blk)) => (Sp.encP l))
def r32_Encode.C : Ctr := pureCtr [.lst (.nm 2)] [.lst (.nm 0), .int .i64] (some (fun (l : (List Blk)) => ∀ b ∈ l, ∀ c ∈ b.cmds, Sp.okL [c.sym])) (fun (l : (List Blk)) => ((if Sp.check l = 0 then (Sp.encP l, 0) else ([], Sp.check l))))
def r32_call.C : Ctr := pureCtr [.lst (.nm 2), .lst (.nm 0)] [.lst (.nm 0), .int .i64] (some (fun (a_ : (List Blk) × (List Tm)) => match a_ with | (l, inp) => Sp.check l = 0 ∧ Sp.nodesL inp ≤ 4000)) (fun (a_ : (List Blk) × (List Tm)) => match a_ with | (l, inp) => (Sp.callP l inp))
def r32_Interpret.C : Ctr := pureCtr [.lst (.nm 2), .lst (.nm 0)] [.lst (.nm 0), .int .i64] (some (fun (a_ : (List Blk) × (List Tm)) => match a_ with | (l, inp) => (∀ b ∈ l, ∀ c ∈ b.cmds, Sp.okL [c.sym]) ∧ Sp.okL inp)) (fun (a_ : (List Blk) × (List Tm)) => match a_ with | (l, inp) => ((if Sp.check l ≠ 0 then ([], Sp.check l) else if Sp.wrong inp 4 ≠ 0 then ([], Sp.wrong inp 4) else Sp.callP l inp)))
def r32_Config.C : Ctr := pureCtr [.lst (.nm 2)] [.nm 5, .int .i64] (some (fun (l : (List Blk)) => ∀ b ∈ l, ∀ c ∈ b.cmds, Sp.okL [c.sym])) (fun (l : (List Blk)) => ((if Sp.check l ≠ 0 then ((Cfg.mk [] []), Sp.check l) else (Cfg.mk (Sp.callP l Sp.inpW).1 [], (Sp.callP l Sp.inpW).2))))
end Go.AL

namespace Go.AL
set_option linter.unusedVariables false
set_option maxRecDepth 10000
def r01_Copy.l0 (l : (List Tm)) : Prop :=
  (∀ l1 : (List Tm), (∀ l2 : (List Tm), (∀ i : Int, (((l1 = l) ∧ ((0 ≤ i) ∧ ((i ≤ (↑(List.length l) : Int)) ∧ (l2 = (List.take (Int.toNat i) l))))) → (((List.length l1) < 9223372036854775808) → (ifB (decide (i < (↑(List.length l1) : Int))) (((0 ≤ i) ∧ (i < (↑(List.length l1) : Int))) ∧ (((0 ≤ i) ∧ (i < (↑(List.length l1) : Int))) ∧ (((0 ≤ i) ∧ (i < (↑(List.length l1) : Int))) ∧ (((List.length (Tm.kids (nth (Inhabited.default) l1 i))) < 9223372036854775808) → (ifB (decide (0 < (↑(List.length (Tm.kids (nth (Inhabited.default) l1 i))) : Int))) (((0 ≤ i) ∧ (i < (↑(List.length l1) : Int))) ∧ (((Sp.okL (Tm.kids (nth (Inhabited.default) l1 i))) ∧ ((Sp.nodesL (Tm.kids (nth (Inhabited.default) l1 i))) < (Sp.nodesL l))) ∧ (∀ l3 : (List Tm), (((Tm.kids (nth (Inhabited.default) l1 i)) = l3) → ((((List.length l2) + (List.length ((Tm.mk (Tm.kind (nth (Inhabited.default) l1 i)) (Tm.text (nth (Inhabited.default) l1 i)) l3) :: ([] : (List Tm))))) ≤ 8589934592) ∧ ((inR Go.IntKind.i64 (i + 1)) ∧ (((l1 = l) ∧ ((0 ≤ (i + 1)) ∧ (((i + 1) ≤ (↑(List.length l) : Int)) ∧ ((l2 ++ ((Tm.mk (Tm.kind (nth (Inhabited.default) l1 i)) (Tm.text (nth (Inhabited.default) l1 i)) l3) :: ([] : (List Tm)))) = (List.take (Int.toNat (i + 1)) l))))) ∧ (((Int.toNat ((↑(List.length l) : Int) - (i + 1))) < (Int.toNat ((↑(List.length l) : Int) - i))) ∧ (((LOut.brk (l, (↑(List.length l) : Int))) : (LOut ((List Tm) × Int) (List Tm))) = (LOut.brk (l, (↑(List.length l) : Int)))))))))))) ((((List.length l2) + (List.length ((Tm.mk (Tm.kind (nth (Inhabited.default) l1 i)) (Tm.text (nth (Inhabited.default) l1 i)) ([] : (List Tm))) :: ([] : (List Tm))))) ≤ 8589934592) ∧ ((inR Go.IntKind.i64 (i + 1)) ∧ (((l1 = l) ∧ ((0 ≤ (i + 1)) ∧ (((i + 1) ≤ (↑(List.length l) : Int)) ∧ ((l2 ++ ((Tm.mk (Tm.kind (nth (Inhabited.default) l1 i)) (Tm.text (nth (Inhabited.default) l1 i)) ([] : (List Tm))) :: ([] : (List Tm)))) = (List.take (Int.toNat (i + 1)) l))))) ∧ (((Int.toNat ((↑(List.length l) : Int) - (i + 1))) < (Int.toNat ((↑(List.length l) : Int) - i))) ∧ (((LOut.brk (l, (↑(List.length l) : Int))) : (LOut ((List Tm) × Int) (List Tm))) = (LOut.brk (l, (↑(List.length l) : Int))))))))))))) (((LOut.brk (l, (↑(List.length l) : Int))) : (LOut ((List Tm) × Int) (List Tm))) = (LOut.brk (l2, i)))))))))
def r01_Copy.t (l : (List Tm)) : Prop :=
  (((l = l) ∧ (((0 : Int) ≤ 0) ∧ ((0 ≤ (↑(List.length l) : Int)) ∧ (([] : (List Tm)) = (List.take (Int.toNat 0) l))))) ∧ ((r01_Copy.l0 l) ∧ (∀ l1 : (List Tm), (∀ i : Int, ((((LOut.brk (l, (↑(List.length l) : Int))) : (LOut ((List Tm) × Int) (List Tm))) = (LOut.brk (l1, i))) → (l = l1))))))
theorem r01_Copy.w (l : (List Tm)) : wpF Go.Proofs.Try.prog (lookC ((43, pureCtr [.lst (.nm 0)] [.lst (.nm 0)] (some fun b_ => preC (some (fun (l : (List Tm)) => Sp.okL l)) b_ ∧ (fun (l : (List Tm)) => Sp.nodesL l) b_ < (fun (l : (List Tm)) => Sp.nodesL l) l) (fun (l : (List Tm)) => (l))) :: [])) 43 [.lst (.nm 0)] [.lst (.nm 0)] (r01_Copy.Λ l) (fun _ => none) l (fun r => (l) = r) = r01_Copy.t l := by kernel_rfl
def l09_nodes.l0 (l : (List Tm)) (left : Int) (depth : Int) : Prop :=
  (∀ l1 : (List Tm), (∀ i : Int, (∀ i1 : Int, (∀ i2 : Int, (∀ i3 : Int, (((l1 = l) ∧ ((i = left) ∧ ((i1 = depth) ∧ ((0 ≤ i3) ∧ ((i3 ≤ (↑(List.length l) : Int)) ∧ ((0 ≤ i2) ∧ (i2 ≤ (left + 1)))))))) → (((List.length l1) < 9223372036854775808) → (ifB ((decide (i3 < (↑(List.length l1) : Int))) && (decide (i2 ≤ i))) (ifB (decide (150 < i1)) ((inR Go.IntKind.i64 (i + 1)) ∧ (((Sp.cntO (List.drop (Int.toNat i3) l) i2 left depth i3) : (LOut (Int × Int) Int)) = (LOut.ret (i + 1)))) (((0 ≤ i3) ∧ (i3 < (↑(List.length l1) : Int))) ∧ ((inR Go.IntKind.i64 (i - i2)) ∧ ((inR Go.IntKind.i64 ((i - i2) - 1)) ∧ ((inR Go.IntKind.i64 (i1 + 1)) ∧ (((((-1) ≤ ((i - i2) - 1)) ∧ ((((i - i2) - 1) ≤ 1000000) ∧ ((0 ≤ (i1 + 1)) ∧ ((i1 + 1) ≤ 151)))) ∧ ((Sp.nodesL (Tm.kids (nth (Inhabited.default) l1 i3))) < (Sp.nodesL l))) ∧ (∀ i4 : Int, (((Sp.cntL (Tm.kids (nth (Inhabited.default) l1 i3)) 0 ((i - i2) - 1) (i1 + 1)) = i4) → ((inR Go.IntKind.i64 (1 + i4)) ∧ ((inR Go.IntKind.i64 (i2 + (1 + i4))) ∧ ((inR Go.IntKind.i64 (i3 + 1)) ∧ (((l1 = l) ∧ ((i = left) ∧ ((i1 = depth) ∧ ((0 ≤ (i3 + 1)) ∧ (((i3 + 1) ≤ (↑(List.length l) : Int)) ∧ ((0 ≤ (i2 + (1 + i4))) ∧ ((i2 + (1 + i4)) ≤ (left + 1)))))))) ∧ (((Int.toNat ((↑(List.length l) : Int) - (i3 + 1))) < (Int.toNat ((↑(List.length l) : Int) - i3))) ∧ (((Sp.cntO (List.drop (Int.toNat (i3 + 1)) l) (i2 + (1 + i4)) left depth (i3 + 1)) : (LOut (Int × Int) Int)) = (Sp.cntO (List.drop (Int.toNat i3) l) i2 left depth i3))))))))))))))) (((Sp.cntO (List.drop (Int.toNat i3) l) i2 left depth i3) : (LOut (Int × Int) Int)) = (LOut.brk (i2, i3)))))))))))
def l09_nodes.t (l : (List Tm)) (left : Int) (depth : Int) : Prop :=
  (((l = l) ∧ ((left = left) ∧ ((depth = depth) ∧ (((0 : Int) ≤ 0) ∧ ((0 ≤ (↑(List.length l) : Int)) ∧ (((0 : Int) ≤ 0) ∧ (0 ≤ (left + 1)))))))) ∧ ((l09_nodes.l0 l left depth) ∧ ((∀ i : Int, (∀ i1 : Int, ((((Sp.cntO (List.drop (Int.toNat 0) l) 0 left depth 0) : (LOut (Int × Int) Int)) = (LOut.brk (i, i1))) → ((Sp.cntL l 0 left depth) = i)))) ∧ (∀ i : Int, ((((Sp.cntO (List.drop (Int.toNat 0) l) 0 left depth 0) : (LOut (Int × Int) Int)) = (LOut.ret i)) → ((Sp.cntL l 0 left depth) = i))))))
theorem l09_nodes.w (l : (List Tm)) (left : Int) (depth : Int) : wpF Go.Proofs.Try.prog (lookC ((30, pureCtr [.lst (.nm 0), .int .i64, .int .i64] [.int .i64] (some fun b_ => preC (some (fun (a_ : (List Tm) × Int × Int) => match a_ with | (l, left, depth) => -1 ≤ left ∧ left ≤ 1000000 ∧ 0 ≤ depth ∧ depth ≤ 151)) b_ ∧ (fun (a_ : (List Tm) × Int × Int) => match a_ with | (l, left, depth) => Sp.nodesL l) b_ < (fun (a_ : (List Tm) × Int × Int) => match a_ with | (l, left, depth) => Sp.nodesL l) (l, left, depth)) (fun (a_ : (List Tm) × Int × Int) => match a_ with | (l, left, depth) => (Sp.cntL l 0 left depth))) :: [])) 30 [.lst (.nm 0), .int .i64, .int .i64] [.int .i64] (l09_nodes.Λ l left depth) (fun _ => none) (l, left, depth) (fun r => (Sp.cntL l 0 left depth) = r) = l09_nodes.t l left depth := by kernel_rfl
def l09_short.l0 (l : (List Tm)) : Prop :=
  (∀ l1 : (List Tm), (∀ i : Int, (((l1 = l) ∧ ((0 ≤ i) ∧ (i ≤ (↑(List.length l) : Int)))) → (((List.length l1) < 9223372036854775808) → (ifB (decide (i < (↑(List.length l1) : Int))) (((0 ≤ i) ∧ (i < (↑(List.length l1) : Int))) ∧ (((ByteArray.size (Tm.text (nth (Inhabited.default) l1 i))) < 9223372036854775808) → ((((decide (600 < (↑(ByteArray.size (Tm.text (nth (Inhabited.default) l1 i))) : Int))) = Bool.false) → ((0 ≤ i) ∧ (i < (↑(List.length l1) : Int)))) ∧ ((((decide (600 < (↑(ByteArray.size (Tm.text (nth (Inhabited.default) l1 i))) : Int))) = Bool.false) → (True ∧ ((Sp.nodesL (Tm.kids (nth (Inhabited.default) l1 i))) < (Sp.nodesL l)))) ∧ (ifB ((decide (600 < (↑(ByteArray.size (Tm.text (nth (Inhabited.default) l1 i))) : Int))) || (!(Sp.shortL (Tm.kids (nth (Inhabited.default) l1 i))))) (((ite ((Sp.shortL (List.drop (Int.toNat i) l)) = Bool.true) (LOut.brk (↑(List.length l) : Int)) (LOut.ret Bool.false)) : (LOut Int Bool)) = (LOut.ret Bool.false)) ((inR Go.IntKind.i64 (i + 1)) ∧ (((l1 = l) ∧ ((0 ≤ (i + 1)) ∧ ((i + 1) ≤ (↑(List.length l) : Int)))) ∧ (((Int.toNat ((↑(List.length l) : Int) - (i + 1))) < (Int.toNat ((↑(List.length l) : Int) - i))) ∧ (((ite ((Sp.shortL (List.drop (Int.toNat (i + 1)) l)) = Bool.true) (LOut.brk (↑(List.length l) : Int)) (LOut.ret Bool.false)) : (LOut Int Bool)) = (ite ((Sp.shortL (List.drop (Int.toNat i) l)) = Bool.true) (LOut.brk (↑(List.length l) : Int)) (LOut.ret Bool.false))))))))))) (((ite ((Sp.shortL (List.drop (Int.toNat i) l)) = Bool.true) (LOut.brk (↑(List.length l) : Int)) (LOut.ret Bool.false)) : (LOut Int Bool)) = (LOut.brk i)))))))
def l09_short.t (l : (List Tm)) : Prop :=
  (((l = l) ∧ (((0 : Int) ≤ 0) ∧ (0 ≤ (↑(List.length l) : Int)))) ∧ ((l09_short.l0 l) ∧ ((∀ i : Int, ((((ite ((Sp.shortL (List.drop (Int.toNat 0) l)) = Bool.true) (LOut.brk (↑(List.length l) : Int)) (LOut.ret Bool.false)) : (LOut Int Bool)) = (LOut.brk i)) → ((Sp.shortL l) = Bool.true))) ∧ (∀ b : Bool, ((((ite ((Sp.shortL (List.drop (Int.toNat 0) l)) = Bool.true) (LOut.brk (↑(List.length l) : Int)) (LOut.ret Bool.false)) : (LOut Int Bool)) = (LOut.ret b)) → ((Sp.shortL l) = b))))))
theorem l09_short.w (l : (List Tm)) : wpF Go.Proofs.Try.prog (lookC ((31, pureCtr [.lst (.nm 0)] [.bool] (some fun b_ => preC none b_ ∧ (fun (l : (List Tm)) => Sp.nodesL l) b_ < (fun (l : (List Tm)) => Sp.nodesL l) l) (fun (l : (List Tm)) => (Sp.shortL l))) :: [])) 31 [.lst (.nm 0)] [.bool] (l09_short.Λ l) (fun _ => none) l (fun r => (Sp.shortL l) = r) = l09_short.t l := by kernel_rfl
def l09_Small.t (l : (List Tm)) (most : Int) : Prop :=
  ((((-1) ≤ most) ∧ ((most ≤ 1000000) ∧ (((0 : Int) ≤ 0) ∧ ((0 : Int) ≤ 151)))) ∧ (∀ i : Int, (((Sp.cntL l 0 most 0) = i) → ((Sp.small l most) = ((decide (i ≤ most)) && (Sp.shortL l))))))
theorem l09_Small.w (l : (List Tm)) (most : Int) : wpF Go.Proofs.Try.prog (lookC [(30, l09_nodes.C), (31, l09_short.C)]) 7 [.lst (.nm 0), .int .i64] [.bool] (fun _ => none) (fun _ => none) (l, most) (fun r => (Sp.small l most) = r) = l09_Small.t l most := by kernel_rfl
def r32_find.l0 (l : (List Blk)) (s : ByteArray) : Prop :=
  (∀ l1 : (List Blk), (∀ s1 : ByteArray, (∀ i : Int, (((l1 = l) ∧ ((s1 = s) ∧ ((0 ≤ i) ∧ (i ≤ (↑(List.length l) : Int))))) → (((List.length l1) < 9223372036854775808) → (ifB (decide (i < (↑(List.length l1) : Int))) (((0 ≤ i) ∧ (i < (↑(List.length l1) : Int))) ∧ (ifB (decide ((Blk.label (nth (Inhabited.default) l1 i)) = s1)) (((ite ((Sp.find (List.drop (Int.toNat i) l) s) = (-1)) (LOut.brk (↑(List.length l) : Int)) (LOut.ret (i + (Sp.find (List.drop (Int.toNat i) l) s)))) : (LOut Int Int)) = (LOut.ret i)) ((inR Go.IntKind.i64 (i + 1)) ∧ (((l1 = l) ∧ ((s1 = s) ∧ ((0 ≤ (i + 1)) ∧ ((i + 1) ≤ (↑(List.length l) : Int))))) ∧ (((Int.toNat ((↑(List.length l) : Int) - (i + 1))) < (Int.toNat ((↑(List.length l) : Int) - i))) ∧ (((ite ((Sp.find (List.drop (Int.toNat (i + 1)) l) s) = (-1)) (LOut.brk (↑(List.length l) : Int)) (LOut.ret ((i + 1) + (Sp.find (List.drop (Int.toNat (i + 1)) l) s)))) : (LOut Int Int)) = (ite ((Sp.find (List.drop (Int.toNat i) l) s) = (-1)) (LOut.brk (↑(List.length l) : Int)) (LOut.ret (i + (Sp.find (List.drop (Int.toNat i) l) s)))))))))) (((ite ((Sp.find (List.drop (Int.toNat i) l) s) = (-1)) (LOut.brk (↑(List.length l) : Int)) (LOut.ret (i + (Sp.find (List.drop (Int.toNat i) l) s)))) : (LOut Int Int)) = (LOut.brk i))))))))
def r32_find.t (l : (List Blk)) (s : ByteArray) : Prop :=
  (((l = l) ∧ ((s = s) ∧ (((0 : Int) ≤ 0) ∧ (0 ≤ (↑(List.length l) : Int))))) ∧ ((r32_find.l0 l s) ∧ ((∀ i : Int, ((((ite ((Sp.find (List.drop (Int.toNat 0) l) s) = (-1)) (LOut.brk (↑(List.length l) : Int)) (LOut.ret (0 + (Sp.find (List.drop (Int.toNat 0) l) s)))) : (LOut Int Int)) = (LOut.brk i)) → ((Sp.find l s) = (-1)))) ∧ (∀ i : Int, ((((ite ((Sp.find (List.drop (Int.toNat 0) l) s) = (-1)) (LOut.brk (↑(List.length l) : Int)) (LOut.ret (0 + (Sp.find (List.drop (Int.toNat 0) l) s)))) : (LOut Int Int)) = (LOut.ret i)) → ((Sp.find l s) = i))))))
theorem r32_find.w (l : (List Blk)) (s : ByteArray) : wpF Go.Proofs.Try.prog (lookC []) 36 [.lst (.nm 2), .str] [.int .i64] (r32_find.Λ l s) (fun _ => none) (l, s) (fun r => (Sp.find l s) = r) = r32_find.t l s := by kernel_rfl
def r32_command.t (l : (List Blk)) (c : Cmd) : Prop :=
  (ifB ((decide ((Cmd.kind c) < 1)) || (decide (5 < (Cmd.kind c)))) ((Sp.cmdErr l c) = 340) (ifB ((decide ((Cmd.kind c) = 1)) || (decide ((Cmd.kind c) = 3))) (∀ b : Bool, (((Sp.sym (Tm.mk (Tm.kind (Cmd.sym c)) (Tm.text (Cmd.sym c)) (Tm.kids (Cmd.sym c)))) = b) → ((((!b) = Bool.false) → (Sp.okL ((Tm.mk (Tm.kind (Cmd.sym c)) (Tm.text (Cmd.sym c)) (Tm.kids (Cmd.sym c))) :: ([] : (List Tm))))) ∧ (ifB ((!b) || (!(decide ((Sp.wrong ((Tm.mk (Tm.kind (Cmd.sym c)) (Tm.text (Cmd.sym c)) (Tm.kids (Cmd.sym c))) :: ([] : (List Tm))) 4) = 0)))) ((Sp.cmdErr l c) = 340) (ifB ((!(((decide ((Cmd.kind c) = 2)) || (decide ((Cmd.kind c) = 3))) || (decide ((Cmd.kind c) = 4)))) && (!(decide ((Cmd.label c) = (⟨#[]⟩ : ByteArray))))) ((Sp.cmdErr l c) = 340) (ifB ((((decide ((Cmd.kind c) = 2)) || (decide ((Cmd.kind c) = 3))) || (decide ((Cmd.kind c) = 4))) && (decide ((Sp.find l (Cmd.label c)) < 0))) ((Sp.cmdErr l c) = 9) ((Sp.cmdErr l c) = 0))))))) (ifB (!(((decide ((Tm.kind (Cmd.sym c)) = 0)) && (decide ((Tm.text (Cmd.sym c)) = (⟨#[]⟩ : ByteArray)))) && (decide ((↑(List.length (Tm.kids (Cmd.sym c))) : Int) = 0)))) ((Sp.cmdErr l c) = 340) (ifB ((!(((decide ((Cmd.kind c) = 2)) || (decide ((Cmd.kind c) = 3))) || (decide ((Cmd.kind c) = 4)))) && (!(decide ((Cmd.label c) = (⟨#[]⟩ : ByteArray))))) ((Sp.cmdErr l c) = 340) (ifB ((((decide ((Cmd.kind c) = 2)) || (decide ((Cmd.kind c) = 3))) || (decide ((Cmd.kind c) = 4))) && (decide ((Sp.find l (Cmd.label c)) < 0))) ((Sp.cmdErr l c) = 9) ((Sp.cmdErr l c) = 0))))))
theorem r32_command.w (l : (List Blk)) (c : Cmd) : wpF Go.Proofs.Try.prog (lookC [(35, r01_Value.C), (36, r32_find.C), (53, r01_IsSymbol.C)]) 41 [.lst (.nm 2), .nm 1] [.int .i64] (fun _ => none) (fun _ => none) (l, c) (fun r => (Sp.cmdErr l c) = r) = r32_command.t l c := by kernel_rfl
def r32_Check.l0 (l : (List Blk)) : Prop :=
  (∀ l1 : (List Blk), (∀ i : Int, (((l1 = l) ∧ ((0 ≤ i) ∧ (i ≤ (↑(List.length l) : Int)))) → (((List.length l1) < 9223372036854775808) → (ifB (decide (i < (↑(List.length l1) : Int))) (((0 ≤ i) ∧ (i < (↑(List.length l1) : Int))) ∧ (((List.length (Blk.cmds (nth (Inhabited.default) l1 i))) < 9223372036854775808) → (ifB (decide (30 < (↑(List.length (Blk.cmds (nth (Inhabited.default) l1 i))) : Int))) (((ite ((List.any (List.drop (Int.toNat i) l) (fun x : Blk => (decide (30 < (List.length (Blk.cmds x)))))) = Bool.true) (LOut.ret 5) (LOut.brk (↑(List.length l) : Int))) : (LOut Int Int)) = (LOut.ret 5)) ((inR Go.IntKind.i64 (i + 1)) ∧ (((l1 = l) ∧ ((0 ≤ (i + 1)) ∧ ((i + 1) ≤ (↑(List.length l) : Int)))) ∧ (((Int.toNat ((↑(List.length l) : Int) - (i + 1))) < (Int.toNat ((↑(List.length l) : Int) - i))) ∧ (((ite ((List.any (List.drop (Int.toNat (i + 1)) l) (fun x : Blk => (decide (30 < (List.length (Blk.cmds x)))))) = Bool.true) (LOut.ret 5) (LOut.brk (↑(List.length l) : Int))) : (LOut Int Int)) = (ite ((List.any (List.drop (Int.toNat i) l) (fun x : Blk => (decide (30 < (List.length (Blk.cmds x)))))) = Bool.true) (LOut.ret 5) (LOut.brk (↑(List.length l) : Int)))))))))) (((ite ((List.any (List.drop (Int.toNat i) l) (fun x : Blk => (decide (30 < (List.length (Blk.cmds x)))))) = Bool.true) (LOut.ret 5) (LOut.brk (↑(List.length l) : Int))) : (LOut Int Int)) = (LOut.brk i)))))))
def r32_Check.l2 (l : (List Blk)) : Prop :=
  (∀ l1 : (List Blk), (∀ i1 : Int, (((l1 = l) ∧ ((0 ≤ i1) ∧ (i1 ≤ (↑(List.length l) : Int)))) → (((List.length l1) < 9223372036854775808) → (ifB (decide (i1 < (↑(List.length l1) : Int))) (((0 ≤ i1) ∧ (i1 < (↑(List.length l1) : Int))) ∧ ((Sp.okL ((Tm.mk 2 (Blk.label (nth (Inhabited.default) l1 i1)) ([] : (List Tm))) :: ([] : (List Tm)))) ∧ (∀ i2 : Int, (((Sp.wrong ((Tm.mk 2 (Blk.label (nth (Inhabited.default) l1 i1)) ([] : (List Tm))) :: ([] : (List Tm))) 4) = i2) → (ifB (!(decide (i2 = 0))) (((ite ((Sp.labErr l (List.drop (Int.toNat i1) l) i1) = 0) (LOut.brk (↑(List.length l) : Int)) (LOut.ret (Sp.labErr l (List.drop (Int.toNat i1) l) i1))) : (LOut Int Int)) = (LOut.ret 340)) (((0 ≤ i1) ∧ (i1 < (↑(List.length l1) : Int))) ∧ (∀ i3 : Int, (((Sp.find l1 (Blk.label (nth (Inhabited.default) l1 i1))) = i3) → (ifB (!(decide (i3 = i1))) (((ite ((Sp.labErr l (List.drop (Int.toNat i1) l) i1) = 0) (LOut.brk (↑(List.length l) : Int)) (LOut.ret (Sp.labErr l (List.drop (Int.toNat i1) l) i1))) : (LOut Int Int)) = (LOut.ret 10)) ((inR Go.IntKind.i64 (i1 + 1)) ∧ (((l1 = l) ∧ ((0 ≤ (i1 + 1)) ∧ ((i1 + 1) ≤ (↑(List.length l) : Int)))) ∧ (((Int.toNat ((↑(List.length l) : Int) - (i1 + 1))) < (Int.toNat ((↑(List.length l) : Int) - i1))) ∧ (((ite ((Sp.labErr l (List.drop (Int.toNat (i1 + 1)) l) (i1 + 1)) = 0) (LOut.brk (↑(List.length l) : Int)) (LOut.ret (Sp.labErr l (List.drop (Int.toNat (i1 + 1)) l) (i1 + 1)))) : (LOut Int Int)) = (ite ((Sp.labErr l (List.drop (Int.toNat i1) l) i1) = 0) (LOut.brk (↑(List.length l) : Int)) (LOut.ret (Sp.labErr l (List.drop (Int.toNat i1) l) i1)))))))))))))))) (((ite ((Sp.labErr l (List.drop (Int.toNat i1) l) i1) = 0) (LOut.brk (↑(List.length l) : Int)) (LOut.ret (Sp.labErr l (List.drop (Int.toNat i1) l) i1))) : (LOut Int Int)) = (LOut.brk i1)))))))
def r32_Check.l6 (l : (List Blk)) : Prop :=
  (∀ l2 : (List Blk), (∀ i3 : Int, (∀ i4 : Int, (((l2 = l) ∧ ((0 ≤ i3) ∧ ((i3 < (↑(List.length l) : Int)) ∧ ((0 ≤ i4) ∧ (i4 ≤ (↑(List.length (Blk.cmds (nth (Inhabited.default) l i3))) : Int)))))) → (((0 ≤ i3) ∧ (i3 < (↑(List.length l2) : Int))) ∧ (((List.length (Blk.cmds (nth (Inhabited.default) l2 i3))) < 9223372036854775808) → (ifB (decide (i4 < (↑(List.length (Blk.cmds (nth (Inhabited.default) l2 i3))) : Int))) (((0 ≤ i3) ∧ (i3 < (↑(List.length l2) : Int))) ∧ (((0 ≤ i4) ∧ (i4 < (↑(List.length (Blk.cmds (nth (Inhabited.default) l2 i3))) : Int))) ∧ ((Sp.okL ((Cmd.sym (nth (Inhabited.default) (Blk.cmds (nth (Inhabited.default) l2 i3)) i4)) :: ([] : (List Tm)))) ∧ (∀ i5 : Int, (((Sp.cmdErr l2 (nth (Inhabited.default) (Blk.cmds (nth (Inhabited.default) l2 i3)) i4)) = i5) → (ifB (!(decide (i5 = 0))) (((ite ((Sp.cmdsErr l (List.drop (Int.toNat i4) (Blk.cmds (nth (Inhabited.default) l i3)))) = 0) (LOut.brk (↑(List.length (Blk.cmds (nth (Inhabited.default) l i3))) : Int)) (LOut.ret (Sp.cmdsErr l (List.drop (Int.toNat i4) (Blk.cmds (nth (Inhabited.default) l i3)))))) : (LOut Int Int)) = (LOut.ret i5)) ((inR Go.IntKind.i64 (i4 + 1)) ∧ (((l2 = l) ∧ ((0 ≤ i3) ∧ ((i3 < (↑(List.length l) : Int)) ∧ ((0 ≤ (i4 + 1)) ∧ ((i4 + 1) ≤ (↑(List.length (Blk.cmds (nth (Inhabited.default) l i3))) : Int)))))) ∧ (((Int.toNat ((↑(List.length (Blk.cmds (nth (Inhabited.default) l i3))) : Int) - (i4 + 1))) < (Int.toNat ((↑(List.length (Blk.cmds (nth (Inhabited.default) l i3))) : Int) - i4))) ∧ (((ite ((Sp.cmdsErr l (List.drop (Int.toNat (i4 + 1)) (Blk.cmds (nth (Inhabited.default) l i3)))) = 0) (LOut.brk (↑(List.length (Blk.cmds (nth (Inhabited.default) l i3))) : Int)) (LOut.ret (Sp.cmdsErr l (List.drop (Int.toNat (i4 + 1)) (Blk.cmds (nth (Inhabited.default) l i3)))))) : (LOut Int Int)) = (ite ((Sp.cmdsErr l (List.drop (Int.toNat i4) (Blk.cmds (nth (Inhabited.default) l i3)))) = 0) (LOut.brk (↑(List.length (Blk.cmds (nth (Inhabited.default) l i3))) : Int)) (LOut.ret (Sp.cmdsErr l (List.drop (Int.toNat i4) (Blk.cmds (nth (Inhabited.default) l i3)))))))))))))))) (((ite ((Sp.cmdsErr l (List.drop (Int.toNat i4) (Blk.cmds (nth (Inhabited.default) l i3)))) = 0) (LOut.brk (↑(List.length (Blk.cmds (nth (Inhabited.default) l i3))) : Int)) (LOut.ret (Sp.cmdsErr l (List.drop (Int.toNat i4) (Blk.cmds (nth (Inhabited.default) l i3)))))) : (LOut Int Int)) = (LOut.brk i4)))))))))
def r32_Check.l4 (l : (List Blk)) : Prop :=
  (∀ l1 : (List Blk), (∀ i2 : Int, (((l1 = l) ∧ ((0 ≤ i2) ∧ (i2 ≤ (↑(List.length l) : Int)))) → (((List.length l1) < 9223372036854775808) → (ifB (decide (i2 < (↑(List.length l1) : Int))) (((l1 = l) ∧ ((0 ≤ i2) ∧ ((i2 < (↑(List.length l) : Int)) ∧ (((0 : Int) ≤ 0) ∧ (0 ≤ (↑(List.length (Blk.cmds (nth (Inhabited.default) l i2))) : Int)))))) ∧ ((r32_Check.l6 l) ∧ ((∀ i3 : Int, ((((ite ((Sp.cmdsErr l (List.drop (Int.toNat 0) (Blk.cmds (nth (Inhabited.default) l i2)))) = 0) (LOut.brk (↑(List.length (Blk.cmds (nth (Inhabited.default) l i2))) : Int)) (LOut.ret (Sp.cmdsErr l (List.drop (Int.toNat 0) (Blk.cmds (nth (Inhabited.default) l i2)))))) : (LOut Int Int)) = (LOut.brk i3)) → ((inR Go.IntKind.i64 (i2 + 1)) ∧ (((l1 = l) ∧ ((0 ≤ (i2 + 1)) ∧ ((i2 + 1) ≤ (↑(List.length l) : Int)))) ∧ (((Int.toNat ((↑(List.length l) : Int) - (i2 + 1))) < (Int.toNat ((↑(List.length l) : Int) - i2))) ∧ (((ite ((Sp.blksErr l (List.drop (Int.toNat (i2 + 1)) l)) = 0) (LOut.brk (↑(List.length l) : Int)) (LOut.ret (Sp.blksErr l (List.drop (Int.toNat (i2 + 1)) l)))) : (LOut Int Int)) = (ite ((Sp.blksErr l (List.drop (Int.toNat i2) l)) = 0) (LOut.brk (↑(List.length l) : Int)) (LOut.ret (Sp.blksErr l (List.drop (Int.toNat i2) l)))))))))) ∧ (∀ i3 : Int, ((((ite ((Sp.cmdsErr l (List.drop (Int.toNat 0) (Blk.cmds (nth (Inhabited.default) l i2)))) = 0) (LOut.brk (↑(List.length (Blk.cmds (nth (Inhabited.default) l i2))) : Int)) (LOut.ret (Sp.cmdsErr l (List.drop (Int.toNat 0) (Blk.cmds (nth (Inhabited.default) l i2)))))) : (LOut Int Int)) = (LOut.ret i3)) → (((ite ((Sp.blksErr l (List.drop (Int.toNat i2) l)) = 0) (LOut.brk (↑(List.length l) : Int)) (LOut.ret (Sp.blksErr l (List.drop (Int.toNat i2) l)))) : (LOut Int Int)) = (LOut.ret i3))))))) (((ite ((Sp.blksErr l (List.drop (Int.toNat i2) l)) = 0) (LOut.brk (↑(List.length l) : Int)) (LOut.ret (Sp.blksErr l (List.drop (Int.toNat i2) l)))) : (LOut Int Int)) = (LOut.brk i2)))))))
def r32_Check.t (l : (List Blk)) : Prop :=
  (((List.length l) < 9223372036854775808) → (ifB ((decide ((↑(List.length l) : Int) < 1)) || (decide (30 < (↑(List.length l) : Int)))) ((Sp.check l) = 5) (((l = l) ∧ (((0 : Int) ≤ 0) ∧ (0 ≤ (↑(List.length l) : Int)))) ∧ ((r32_Check.l0 l) ∧ ((∀ i : Int, ((((ite ((List.any (List.drop (Int.toNat 0) l) (fun x : Blk => (decide (30 < (List.length (Blk.cmds x)))))) = Bool.true) (LOut.ret 5) (LOut.brk (↑(List.length l) : Int))) : (LOut Int Int)) = (LOut.brk i)) → (((l = l) ∧ (((0 : Int) ≤ 0) ∧ (0 ≤ (↑(List.length l) : Int)))) ∧ ((r32_Check.l2 l) ∧ ((∀ i1 : Int, ((((ite ((Sp.labErr l (List.drop (Int.toNat 0) l) 0) = 0) (LOut.brk (↑(List.length l) : Int)) (LOut.ret (Sp.labErr l (List.drop (Int.toNat 0) l) 0))) : (LOut Int Int)) = (LOut.brk i1)) → (((l = l) ∧ (((0 : Int) ≤ 0) ∧ (0 ≤ (↑(List.length l) : Int)))) ∧ ((r32_Check.l4 l) ∧ ((∀ i2 : Int, ((((ite ((Sp.blksErr l (List.drop (Int.toNat 0) l)) = 0) (LOut.brk (↑(List.length l) : Int)) (LOut.ret (Sp.blksErr l (List.drop (Int.toNat 0) l)))) : (LOut Int Int)) = (LOut.brk i2)) → ((Sp.check l) = 0))) ∧ (∀ i2 : Int, ((((ite ((Sp.blksErr l (List.drop (Int.toNat 0) l)) = 0) (LOut.brk (↑(List.length l) : Int)) (LOut.ret (Sp.blksErr l (List.drop (Int.toNat 0) l)))) : (LOut Int Int)) = (LOut.ret i2)) → ((Sp.check l) = i2)))))))) ∧ (∀ i1 : Int, ((((ite ((Sp.labErr l (List.drop (Int.toNat 0) l) 0) = 0) (LOut.brk (↑(List.length l) : Int)) (LOut.ret (Sp.labErr l (List.drop (Int.toNat 0) l) 0))) : (LOut Int Int)) = (LOut.ret i1)) → ((Sp.check l) = i1)))))))) ∧ (∀ i : Int, ((((ite ((List.any (List.drop (Int.toNat 0) l) (fun x : Blk => (decide (30 < (List.length (Blk.cmds x)))))) = Bool.true) (LOut.ret 5) (LOut.brk (↑(List.length l) : Int))) : (LOut Int Int)) = (LOut.ret i)) → ((Sp.check l) = i))))))))
theorem r32_Check.w (l : (List Blk)) : wpF Go.Proofs.Try.prog (lookC [(35, r01_Value.C), (36, r32_find.C), (41, r32_command.C)]) 16 [.lst (.nm 2)] [.int .i64] (r32_Check.Λ l) (fun _ => none) l (fun r => (Sp.check l) = r) = r32_Check.t l := by kernel_rfl
def r32_word.t (s : ByteArray) : Prop :=
  ((Sp.wrd s) = (Tm.mk 2 s ([] : (List Tm))))
theorem r32_word.w (s : ByteArray) : wpF Go.Proofs.Try.prog (lookC []) 71 [.str] [.nm 0] (fun _ => none) (fun _ => none) s (fun r => (Sp.wrd s) = r) = r32_word.t s := by kernel_rfl
def r32_Run.l0 (l : (List Blk)) (fuel : Int) : Prop :=
  (∀ l1 : (List Blk), (∀ i2 : Int, (∀ l2 : (List Tm), (∀ l3 : (List Tm), (∀ i3 : Int, (∀ i4 : Int, (∀ i5 : Int, (∀ i6 : Int, (∀ s : ByteArray, (∀ l4 : (List Tm), (((l1 = l) ∧ ((i2 = fuel) ∧ ((0 ≤ i3) ∧ ((i3 < (↑(List.length l) : Int)) ∧ ((0 ≤ i4) ∧ ((i4 ≤ (↑(List.length (Blk.cmds (nth (Inhabited.default) l i3))) : Int)) ∧ ((0 ≤ i5) ∧ ((i5 ≤ fuel) ∧ ((List.length l3) ≤ 4000))))))))) → (((0 ≤ i3) ∧ (i3 < (↑(List.length l1) : Int))) ∧ (((List.length (Blk.cmds (nth (Inhabited.default) l1 i3))) < 9223372036854775808) → (ifB (decide (i4 < (↑(List.length (Blk.cmds (nth (Inhabited.default) l1 i3))) : Int))) (ifB (decide (i5 = i2)) (((Sp.iter (Sp.refStep l fuel) (LOut.ret (([] : (List Tm)), (0, 0))) ((Int.toNat (fuel - i5)) + 1) (l2, (l3, (i3, (i4, (i5, (i6, (s, l4)))))))) : (LOut ((List Tm) × ((List Tm) × (Int × (Int × (Int × (Int × (ByteArray × (List Tm)))))))) ((List Tm) × (Int × Int)))) = (LOut.ret (([] : (List Tm)), (0, 8)))) ((inR Go.IntKind.i64 (i5 + 1)) ∧ (((0 ≤ i3) ∧ (i3 < (↑(List.length l1) : Int))) ∧ (((0 ≤ i4) ∧ (i4 < (↑(List.length (Blk.cmds (nth (Inhabited.default) l1 i3))) : Int))) ∧ ((inR Go.IntKind.i64 (i4 + 1)) ∧ (ifB (decide ((Cmd.kind (nth (Inhabited.default) (Blk.cmds (nth (Inhabited.default) l1 i3)) i4)) = 1)) ((((List.length l3) + (List.length ((Tm.mk (Tm.kind (Cmd.sym (nth (Inhabited.default) (Blk.cmds (nth (Inhabited.default) l1 i3)) i4))) (Tm.text (Cmd.sym (nth (Inhabited.default) (Blk.cmds (nth (Inhabited.default) l1 i3)) i4))) (Tm.kids (Cmd.sym (nth (Inhabited.default) (Blk.cmds (nth (Inhabited.default) l1 i3)) i4)))) :: ([] : (List Tm))))) ≤ 8589934592) ∧ (((List.length (l3 ++ ((Tm.mk (Tm.kind (Cmd.sym (nth (Inhabited.default) (Blk.cmds (nth (Inhabited.default) l1 i3)) i4))) (Tm.text (Cmd.sym (nth (Inhabited.default) (Blk.cmds (nth (Inhabited.default) l1 i3)) i4))) (Tm.kids (Cmd.sym (nth (Inhabited.default) (Blk.cmds (nth (Inhabited.default) l1 i3)) i4)))) :: ([] : (List Tm))))) < 9223372036854775808) → (ifB (decide (4000 < (↑(List.length (l3 ++ ((Tm.mk (Tm.kind (Cmd.sym (nth (Inhabited.default) (Blk.cmds (nth (Inhabited.default) l1 i3)) i4))) (Tm.text (Cmd.sym (nth (Inhabited.default) (Blk.cmds (nth (Inhabited.default) l1 i3)) i4))) (Tm.kids (Cmd.sym (nth (Inhabited.default) (Blk.cmds (nth (Inhabited.default) l1 i3)) i4)))) :: ([] : (List Tm))))) : Int))) (((Sp.iter (Sp.refStep l fuel) (LOut.ret (([] : (List Tm)), (0, 0))) ((Int.toNat (fuel - i5)) + 1) (l2, (l3, (i3, (i4, (i5, (i6, (s, l4)))))))) : (LOut ((List Tm) × ((List Tm) × (Int × (Int × (Int × (Int × (ByteArray × (List Tm)))))))) ((List Tm) × (Int × Int)))) = (LOut.ret (([] : (List Tm)), (0, 7)))) (ifB Bool.false (∀ i7 : Int, (((Sp.find l1 (Cmd.label (nth (Inhabited.default) (Blk.cmds (nth (Inhabited.default) l1 i3)) i4))) = i7) → (((l1 = l) ∧ ((i2 = fuel) ∧ ((0 ≤ i7) ∧ ((i7 < (↑(List.length l) : Int)) ∧ (((0 : Int) ≤ 0) ∧ ((0 ≤ (↑(List.length (Blk.cmds (nth (Inhabited.default) l i7))) : Int)) ∧ ((0 ≤ (i5 + 1)) ∧ (((i5 + 1) ≤ fuel) ∧ ((List.length (l3 ++ ((Tm.mk (Tm.kind (Cmd.sym (nth (Inhabited.default) (Blk.cmds (nth (Inhabited.default) l1 i3)) i4))) (Tm.text (Cmd.sym (nth (Inhabited.default) (Blk.cmds (nth (Inhabited.default) l1 i3)) i4))) (Tm.kids (Cmd.sym (nth (Inhabited.default) (Blk.cmds (nth (Inhabited.default) l1 i3)) i4)))) :: ([] : (List Tm))))) ≤ 4000))))))))) ∧ (((Int.toNat (fuel - (i5 + 1))) < (Int.toNat (fuel - i5))) ∧ (((Sp.iter (Sp.refStep l fuel) (LOut.ret (([] : (List Tm)), (0, 0))) ((Int.toNat (fuel - (i5 + 1))) + 1) (l2, ((l3 ++ ((Tm.mk (Tm.kind (Cmd.sym (nth (Inhabited.default) (Blk.cmds (nth (Inhabited.default) l1 i3)) i4))) (Tm.text (Cmd.sym (nth (Inhabited.default) (Blk.cmds (nth (Inhabited.default) l1 i3)) i4))) (Tm.kids (Cmd.sym (nth (Inhabited.default) (Blk.cmds (nth (Inhabited.default) l1 i3)) i4)))) :: ([] : (List Tm)))), (i7, (0, ((i5 + 1), (i6, (s, l4)))))))) : (LOut ((List Tm) × ((List Tm) × (Int × (Int × (Int × (Int × (ByteArray × (List Tm)))))))) ((List Tm) × (Int × Int)))) = (Sp.iter (Sp.refStep l fuel) (LOut.ret (([] : (List Tm)), (0, 0))) ((Int.toNat (fuel - i5)) + 1) (l2, (l3, (i3, (i4, (i5, (i6, (s, l4))))))))))))) (((l1 = l) ∧ ((i2 = fuel) ∧ ((0 ≤ i3) ∧ ((i3 < (↑(List.length l) : Int)) ∧ ((0 ≤ (i4 + 1)) ∧ (((i4 + 1) ≤ (↑(List.length (Blk.cmds (nth (Inhabited.default) l i3))) : Int)) ∧ ((0 ≤ (i5 + 1)) ∧ (((i5 + 1) ≤ fuel) ∧ ((List.length (l3 ++ ((Tm.mk (Tm.kind (Cmd.sym (nth (Inhabited.default) (Blk.cmds (nth (Inhabited.default) l1 i3)) i4))) (Tm.text (Cmd.sym (nth (Inhabited.default) (Blk.cmds (nth (Inhabited.default) l1 i3)) i4))) (Tm.kids (Cmd.sym (nth (Inhabited.default) (Blk.cmds (nth (Inhabited.default) l1 i3)) i4)))) :: ([] : (List Tm))))) ≤ 4000))))))))) ∧ (((Int.toNat (fuel - (i5 + 1))) < (Int.toNat (fuel - i5))) ∧ (((Sp.iter (Sp.refStep l fuel) (LOut.ret (([] : (List Tm)), (0, 0))) ((Int.toNat (fuel - (i5 + 1))) + 1) (l2, ((l3 ++ ((Tm.mk (Tm.kind (Cmd.sym (nth (Inhabited.default) (Blk.cmds (nth (Inhabited.default) l1 i3)) i4))) (Tm.text (Cmd.sym (nth (Inhabited.default) (Blk.cmds (nth (Inhabited.default) l1 i3)) i4))) (Tm.kids (Cmd.sym (nth (Inhabited.default) (Blk.cmds (nth (Inhabited.default) l1 i3)) i4)))) :: ([] : (List Tm)))), (i3, ((i4 + 1), ((i5 + 1), (i6, (s, l4)))))))) : (LOut ((List Tm) × ((List Tm) × (Int × (Int × (Int × (Int × (ByteArray × (List Tm)))))))) ((List Tm) × (Int × Int)))) = (Sp.iter (Sp.refStep l fuel) (LOut.ret (([] : (List Tm)), (0, 0))) ((Int.toNat (fuel - i5)) + 1) (l2, (l3, (i3, (i4, (i5, (i6, (s, l4))))))))))))))) (ifB (decide ((Cmd.kind (nth (Inhabited.default) (Blk.cmds (nth (Inhabited.default) l1 i3)) i4)) = 2)) (((List.length l2) < 9223372036854775808) → (ifB (!(decide ((↑(List.length l2) : Int) = 0))) ((((0 : Int) ≤ 0) ∧ (0 < (↑(List.length l2) : Int))) ∧ (ifB (decide ((Tm.kind (nth (Inhabited.default) l2 0)) = 4)) (((Sp.iter (Sp.refStep l fuel) (LOut.ret (([] : (List Tm)), (0, 0))) ((Int.toNat (fuel - i5)) + 1) (l2, (l3, (i3, (i4, (i5, (i6, (s, l4)))))))) : (LOut ((List Tm) × ((List Tm) × (Int × (Int × (Int × (Int × (ByteArray × (List Tm)))))))) ((List Tm) × (Int × Int)))) = (LOut.ret (([] : (List Tm)), (0, 20)))) ((((0 : Int) ≤ 0) ∧ (0 < (↑(List.length l2) : Int))) ∧ ((((0 : Int) ≤ 1) ∧ (1 ≤ (↑(List.length l2) : Int))) ∧ (ifB (decide ((↑(List.length l2) : Int) = 0)) (∀ i7 : Int, (((Sp.find l1 (Cmd.label (nth (Inhabited.default) (Blk.cmds (nth (Inhabited.default) l1 i3)) i4))) = i7) → (((l1 = l) ∧ ((i2 = fuel) ∧ ((0 ≤ i7) ∧ ((i7 < (↑(List.length l) : Int)) ∧ (((0 : Int) ≤ 0) ∧ ((0 ≤ (↑(List.length (Blk.cmds (nth (Inhabited.default) l i7))) : Int)) ∧ ((0 ≤ (i5 + 1)) ∧ (((i5 + 1) ≤ fuel) ∧ ((List.length l3) ≤ 4000))))))))) ∧ (((Int.toNat (fuel - (i5 + 1))) < (Int.toNat (fuel - i5))) ∧ (((Sp.iter (Sp.refStep l fuel) (LOut.ret (([] : (List Tm)), (0, 0))) ((Int.toNat (fuel - (i5 + 1))) + 1) ((List.drop (Int.toNat 1) l2), (l3, (i7, (0, ((i5 + 1), ((Tm.kind (nth (Inhabited.default) l2 0)), ((Tm.text (nth (Inhabited.default) l2 0)), (Tm.kids (nth (Inhabited.default) l2 0)))))))))) : (LOut ((List Tm) × ((List Tm) × (Int × (Int × (Int × (Int × (ByteArray × (List Tm)))))))) ((List Tm) × (Int × Int)))) = (Sp.iter (Sp.refStep l fuel) (LOut.ret (([] : (List Tm)), (0, 0))) ((Int.toNat (fuel - i5)) + 1) (l2, (l3, (i3, (i4, (i5, (i6, (s, l4))))))))))))) (((l1 = l) ∧ ((i2 = fuel) ∧ ((0 ≤ i3) ∧ ((i3 < (↑(List.length l) : Int)) ∧ ((0 ≤ (i4 + 1)) ∧ (((i4 + 1) ≤ (↑(List.length (Blk.cmds (nth (Inhabited.default) l i3))) : Int)) ∧ ((0 ≤ (i5 + 1)) ∧ (((i5 + 1) ≤ fuel) ∧ ((List.length l3) ≤ 4000))))))))) ∧ (((Int.toNat (fuel - (i5 + 1))) < (Int.toNat (fuel - i5))) ∧ (((Sp.iter (Sp.refStep l fuel) (LOut.ret (([] : (List Tm)), (0, 0))) ((Int.toNat (fuel - (i5 + 1))) + 1) ((List.drop (Int.toNat 1) l2), (l3, (i3, ((i4 + 1), ((i5 + 1), ((Tm.kind (nth (Inhabited.default) l2 0)), ((Tm.text (nth (Inhabited.default) l2 0)), (Tm.kids (nth (Inhabited.default) l2 0)))))))))) : (LOut ((List Tm) × ((List Tm) × (Int × (Int × (Int × (Int × (ByteArray × (List Tm)))))))) ((List Tm) × (Int × Int)))) = (Sp.iter (Sp.refStep l fuel) (LOut.ret (([] : (List Tm)), (0, 0))) ((Int.toNat (fuel - i5)) + 1) (l2, (l3, (i3, (i4, (i5, (i6, (s, l4)))))))))))))))) (ifB (decide ((↑(List.length l2) : Int) = 0)) (∀ i7 : Int, (((Sp.find l1 (Cmd.label (nth (Inhabited.default) (Blk.cmds (nth (Inhabited.default) l1 i3)) i4))) = i7) → (((l1 = l) ∧ ((i2 = fuel) ∧ ((0 ≤ i7) ∧ ((i7 < (↑(List.length l) : Int)) ∧ (((0 : Int) ≤ 0) ∧ ((0 ≤ (↑(List.length (Blk.cmds (nth (Inhabited.default) l i7))) : Int)) ∧ ((0 ≤ (i5 + 1)) ∧ (((i5 + 1) ≤ fuel) ∧ ((List.length l3) ≤ 4000))))))))) ∧ (((Int.toNat (fuel - (i5 + 1))) < (Int.toNat (fuel - i5))) ∧ (((Sp.iter (Sp.refStep l fuel) (LOut.ret (([] : (List Tm)), (0, 0))) ((Int.toNat (fuel - (i5 + 1))) + 1) (l2, (l3, (i7, (0, ((i5 + 1), (i6, (s, l4)))))))) : (LOut ((List Tm) × ((List Tm) × (Int × (Int × (Int × (Int × (ByteArray × (List Tm)))))))) ((List Tm) × (Int × Int)))) = (Sp.iter (Sp.refStep l fuel) (LOut.ret (([] : (List Tm)), (0, 0))) ((Int.toNat (fuel - i5)) + 1) (l2, (l3, (i3, (i4, (i5, (i6, (s, l4))))))))))))) (((l1 = l) ∧ ((i2 = fuel) ∧ ((0 ≤ i3) ∧ ((i3 < (↑(List.length l) : Int)) ∧ ((0 ≤ (i4 + 1)) ∧ (((i4 + 1) ≤ (↑(List.length (Blk.cmds (nth (Inhabited.default) l i3))) : Int)) ∧ ((0 ≤ (i5 + 1)) ∧ (((i5 + 1) ≤ fuel) ∧ ((List.length l3) ≤ 4000))))))))) ∧ (((Int.toNat (fuel - (i5 + 1))) < (Int.toNat (fuel - i5))) ∧ (((Sp.iter (Sp.refStep l fuel) (LOut.ret (([] : (List Tm)), (0, 0))) ((Int.toNat (fuel - (i5 + 1))) + 1) (l2, (l3, (i3, ((i4 + 1), ((i5 + 1), (i6, (s, l4)))))))) : (LOut ((List Tm) × ((List Tm) × (Int × (Int × (Int × (Int × (ByteArray × (List Tm)))))))) ((List Tm) × (Int × Int)))) = (Sp.iter (Sp.refStep l fuel) (LOut.ret (([] : (List Tm)), (0, 0))) ((Int.toNat (fuel - i5)) + 1) (l2, (l3, (i3, (i4, (i5, (i6, (s, l4)))))))))))))) (ifB (decide ((Cmd.kind (nth (Inhabited.default) (Blk.cmds (nth (Inhabited.default) l1 i3)) i4)) = 3)) (∀ b : Bool, (((decide ((Sp.cmpL ((Tm.mk i6 s l4) :: ([] : (List Tm))) ((Tm.mk (Tm.kind (Cmd.sym (nth (Inhabited.default) (Blk.cmds (nth (Inhabited.default) l1 i3)) i4))) (Tm.text (Cmd.sym (nth (Inhabited.default) (Blk.cmds (nth (Inhabited.default) l1 i3)) i4))) (Tm.kids (Cmd.sym (nth (Inhabited.default) (Blk.cmds (nth (Inhabited.default) l1 i3)) i4)))) :: ([] : (List Tm)))) = 0)) = b) → (ifB b (∀ i7 : Int, (((Sp.find l1 (Cmd.label (nth (Inhabited.default) (Blk.cmds (nth (Inhabited.default) l1 i3)) i4))) = i7) → (((l1 = l) ∧ ((i2 = fuel) ∧ ((0 ≤ i7) ∧ ((i7 < (↑(List.length l) : Int)) ∧ (((0 : Int) ≤ 0) ∧ ((0 ≤ (↑(List.length (Blk.cmds (nth (Inhabited.default) l i7))) : Int)) ∧ ((0 ≤ (i5 + 1)) ∧ (((i5 + 1) ≤ fuel) ∧ ((List.length l3) ≤ 4000))))))))) ∧ (((Int.toNat (fuel - (i5 + 1))) < (Int.toNat (fuel - i5))) ∧ (((Sp.iter (Sp.refStep l fuel) (LOut.ret (([] : (List Tm)), (0, 0))) ((Int.toNat (fuel - (i5 + 1))) + 1) (l2, (l3, (i7, (0, ((i5 + 1), (i6, (s, l4)))))))) : (LOut ((List Tm) × ((List Tm) × (Int × (Int × (Int × (Int × (ByteArray × (List Tm)))))))) ((List Tm) × (Int × Int)))) = (Sp.iter (Sp.refStep l fuel) (LOut.ret (([] : (List Tm)), (0, 0))) ((Int.toNat (fuel - i5)) + 1) (l2, (l3, (i3, (i4, (i5, (i6, (s, l4))))))))))))) (((l1 = l) ∧ ((i2 = fuel) ∧ ((0 ≤ i3) ∧ ((i3 < (↑(List.length l) : Int)) ∧ ((0 ≤ (i4 + 1)) ∧ (((i4 + 1) ≤ (↑(List.length (Blk.cmds (nth (Inhabited.default) l i3))) : Int)) ∧ ((0 ≤ (i5 + 1)) ∧ (((i5 + 1) ≤ fuel) ∧ ((List.length l3) ≤ 4000))))))))) ∧ (((Int.toNat (fuel - (i5 + 1))) < (Int.toNat (fuel - i5))) ∧ (((Sp.iter (Sp.refStep l fuel) (LOut.ret (([] : (List Tm)), (0, 0))) ((Int.toNat (fuel - (i5 + 1))) + 1) (l2, (l3, (i3, ((i4 + 1), ((i5 + 1), (i6, (s, l4)))))))) : (LOut ((List Tm) × ((List Tm) × (Int × (Int × (Int × (Int × (ByteArray × (List Tm)))))))) ((List Tm) × (Int × Int)))) = (Sp.iter (Sp.refStep l fuel) (LOut.ret (([] : (List Tm)), (0, 0))) ((Int.toNat (fuel - i5)) + 1) (l2, (l3, (i3, (i4, (i5, (i6, (s, l4)))))))))))))) (ifB (decide ((Cmd.kind (nth (Inhabited.default) (Blk.cmds (nth (Inhabited.default) l1 i3)) i4)) = 4)) (ifB Bool.true (∀ i7 : Int, (((Sp.find l1 (Cmd.label (nth (Inhabited.default) (Blk.cmds (nth (Inhabited.default) l1 i3)) i4))) = i7) → (((l1 = l) ∧ ((i2 = fuel) ∧ ((0 ≤ i7) ∧ ((i7 < (↑(List.length l) : Int)) ∧ (((0 : Int) ≤ 0) ∧ ((0 ≤ (↑(List.length (Blk.cmds (nth (Inhabited.default) l i7))) : Int)) ∧ ((0 ≤ (i5 + 1)) ∧ (((i5 + 1) ≤ fuel) ∧ ((List.length l3) ≤ 4000))))))))) ∧ (((Int.toNat (fuel - (i5 + 1))) < (Int.toNat (fuel - i5))) ∧ (((Sp.iter (Sp.refStep l fuel) (LOut.ret (([] : (List Tm)), (0, 0))) ((Int.toNat (fuel - (i5 + 1))) + 1) (l2, (l3, (i7, (0, ((i5 + 1), (i6, (s, l4)))))))) : (LOut ((List Tm) × ((List Tm) × (Int × (Int × (Int × (Int × (ByteArray × (List Tm)))))))) ((List Tm) × (Int × Int)))) = (Sp.iter (Sp.refStep l fuel) (LOut.ret (([] : (List Tm)), (0, 0))) ((Int.toNat (fuel - i5)) + 1) (l2, (l3, (i3, (i4, (i5, (i6, (s, l4))))))))))))) (((l1 = l) ∧ ((i2 = fuel) ∧ ((0 ≤ i3) ∧ ((i3 < (↑(List.length l) : Int)) ∧ ((0 ≤ (i4 + 1)) ∧ (((i4 + 1) ≤ (↑(List.length (Blk.cmds (nth (Inhabited.default) l i3))) : Int)) ∧ ((0 ≤ (i5 + 1)) ∧ (((i5 + 1) ≤ fuel) ∧ ((List.length l3) ≤ 4000))))))))) ∧ (((Int.toNat (fuel - (i5 + 1))) < (Int.toNat (fuel - i5))) ∧ (((Sp.iter (Sp.refStep l fuel) (LOut.ret (([] : (List Tm)), (0, 0))) ((Int.toNat (fuel - (i5 + 1))) + 1) (l2, (l3, (i3, ((i4 + 1), ((i5 + 1), (i6, (s, l4)))))))) : (LOut ((List Tm) × ((List Tm) × (Int × (Int × (Int × (Int × (ByteArray × (List Tm)))))))) ((List Tm) × (Int × Int)))) = (Sp.iter (Sp.refStep l fuel) (LOut.ret (([] : (List Tm)), (0, 0))) ((Int.toNat (fuel - i5)) + 1) (l2, (l3, (i3, (i4, (i5, (i6, (s, l4)))))))))))) (ifB (decide ((Cmd.kind (nth (Inhabited.default) (Blk.cmds (nth (Inhabited.default) l1 i3)) i4)) = 5)) (((Sp.iter (Sp.refStep l fuel) (LOut.ret (([] : (List Tm)), (0, 0))) ((Int.toNat (fuel - i5)) + 1) (l2, (l3, (i3, (i4, (i5, (i6, (s, l4)))))))) : (LOut ((List Tm) × ((List Tm) × (Int × (Int × (Int × (Int × (ByteArray × (List Tm)))))))) ((List Tm) × (Int × Int)))) = (LOut.ret (l3, ((i5 + 1), 0)))) (ifB Bool.false (∀ i7 : Int, (((Sp.find l1 (Cmd.label (nth (Inhabited.default) (Blk.cmds (nth (Inhabited.default) l1 i3)) i4))) = i7) → (((l1 = l) ∧ ((i2 = fuel) ∧ ((0 ≤ i7) ∧ ((i7 < (↑(List.length l) : Int)) ∧ (((0 : Int) ≤ 0) ∧ ((0 ≤ (↑(List.length (Blk.cmds (nth (Inhabited.default) l i7))) : Int)) ∧ ((0 ≤ (i5 + 1)) ∧ (((i5 + 1) ≤ fuel) ∧ ((List.length l3) ≤ 4000))))))))) ∧ (((Int.toNat (fuel - (i5 + 1))) < (Int.toNat (fuel - i5))) ∧ (((Sp.iter (Sp.refStep l fuel) (LOut.ret (([] : (List Tm)), (0, 0))) ((Int.toNat (fuel - (i5 + 1))) + 1) (l2, (l3, (i7, (0, ((i5 + 1), (i6, (s, l4)))))))) : (LOut ((List Tm) × ((List Tm) × (Int × (Int × (Int × (Int × (ByteArray × (List Tm)))))))) ((List Tm) × (Int × Int)))) = (Sp.iter (Sp.refStep l fuel) (LOut.ret (([] : (List Tm)), (0, 0))) ((Int.toNat (fuel - i5)) + 1) (l2, (l3, (i3, (i4, (i5, (i6, (s, l4))))))))))))) (((l1 = l) ∧ ((i2 = fuel) ∧ ((0 ≤ i3) ∧ ((i3 < (↑(List.length l) : Int)) ∧ ((0 ≤ (i4 + 1)) ∧ (((i4 + 1) ≤ (↑(List.length (Blk.cmds (nth (Inhabited.default) l i3))) : Int)) ∧ ((0 ≤ (i5 + 1)) ∧ (((i5 + 1) ≤ fuel) ∧ ((List.length l3) ≤ 4000))))))))) ∧ (((Int.toNat (fuel - (i5 + 1))) < (Int.toNat (fuel - i5))) ∧ (((Sp.iter (Sp.refStep l fuel) (LOut.ret (([] : (List Tm)), (0, 0))) ((Int.toNat (fuel - (i5 + 1))) + 1) (l2, (l3, (i3, ((i4 + 1), ((i5 + 1), (i6, (s, l4)))))))) : (LOut ((List Tm) × ((List Tm) × (Int × (Int × (Int × (Int × (ByteArray × (List Tm)))))))) ((List Tm) × (Int × Int)))) = (Sp.iter (Sp.refStep l fuel) (LOut.ret (([] : (List Tm)), (0, 0))) ((Int.toNat (fuel - i5)) + 1) (l2, (l3, (i3, (i4, (i5, (i6, (s, l4)))))))))))))))))))))) (((Sp.iter (Sp.refStep l fuel) (LOut.ret (([] : (List Tm)), (0, 0))) ((Int.toNat (fuel - i5)) + 1) (l2, (l3, (i3, (i4, (i5, (i6, (s, l4)))))))) : (LOut ((List Tm) × ((List Tm) × (Int × (Int × (Int × (Int × (ByteArray × (List Tm)))))))) ((List Tm) × (Int × Int)))) = (LOut.brk (l2, (l3, (i3, (i4, (i5, (i6, (s, l4)))))))))))))))))))))))
def r32_Run.t (l : (List Blk)) (input : (List Tm)) (fuel : Int) : Prop :=
  ((∀ x : Blk, ((Membership.mem l x) → (∀ x1 : Cmd, ((Membership.mem (Blk.cmds x) x1) → (Sp.okL ((Cmd.sym x1) :: ([] : (List Tm)))))))) ∧ (∀ i : Int, (((Sp.check l) = i) → (ifB (!(decide (i = 0))) ((Sp.refRun l input fuel) = (([] : (List Tm)), (0, i))) ((Sp.okL input) ∧ (∀ i1 : Int, (((Sp.wrong input 4) = i1) → (ifB (!(decide (i1 = 0))) ((Sp.refRun l input fuel) = (([] : (List Tm)), (0, i1))) (ifB ((decide (fuel < 0)) || (decide (100000 < fuel))) ((Sp.refRun l input fuel) = (([] : (List Tm)), (0, 4))) (((l = l) ∧ ((fuel = fuel) ∧ (((0 : Int) ≤ 0) ∧ ((0 < (↑(List.length l) : Int)) ∧ (((0 : Int) ≤ 0) ∧ ((0 ≤ (↑(List.length (Blk.cmds (nth (Inhabited.default) l 0))) : Int)) ∧ (((0 : Int) ≤ 0) ∧ ((0 ≤ fuel) ∧ ((List.length ([] : (List Tm))) ≤ 4000))))))))) ∧ ((r32_Run.l0 l fuel) ∧ ((∀ l1 : (List Tm), (∀ l2 : (List Tm), (∀ i2 : Int, (∀ i3 : Int, (∀ i4 : Int, (∀ i5 : Int, (∀ s : ByteArray, (∀ l3 : (List Tm), ((((Sp.iter (Sp.refStep l fuel) (LOut.ret (([] : (List Tm)), (0, 0))) ((Int.toNat (fuel - 0)) + 1) (input, (([] : (List Tm)), (0, (0, (0, (2, ((⟨#[83, 116, 97, 114, 116]⟩ : ByteArray), ([] : (List Tm)))))))))) : (LOut ((List Tm) × ((List Tm) × (Int × (Int × (Int × (Int × (ByteArray × (List Tm)))))))) ((List Tm) × (Int × Int)))) = (LOut.brk (l1, (l2, (i2, (i3, (i4, (i5, (s, l3))))))))) → ((Sp.refRun l input fuel) = (l2, (i4, 0)))))))))))) ∧ (∀ l1 : (List Tm), (∀ i2 : Int, (∀ i3 : Int, ((((Sp.iter (Sp.refStep l fuel) (LOut.ret (([] : (List Tm)), (0, 0))) ((Int.toNat (fuel - 0)) + 1) (input, (([] : (List Tm)), (0, (0, (0, (2, ((⟨#[83, 116, 97, 114, 116]⟩ : ByteArray), ([] : (List Tm)))))))))) : (LOut ((List Tm) × ((List Tm) × (Int × (Int × (Int × (Int × (ByteArray × (List Tm)))))))) ((List Tm) × (Int × Int)))) = (LOut.ret (l1, (i2, i3)))) → ((Sp.refRun l input fuel) = (l1, (i2, i3)))))))))))))))))))
theorem r32_Run.w (l : (List Blk)) (input : (List Tm)) (fuel : Int) : wpF Go.Proofs.Try.prog (lookC [(14, r01_Equal.C), (16, r32_Check.C), (35, r01_Value.C), (36, r32_find.C)]) 13 [.lst (.nm 2), .lst (.nm 0), .int .i64] [.lst (.nm 0), .int .i64, .int .i64] (r32_Run.Λ l input fuel) (fun _ => none) (l, input, fuel) (fun r => (Sp.refRun l input fuel) = r) = r32_Run.t l input fuel := by kernel_rfl
def r32_encode.l2 (l : (List Blk)) : Prop :=
  (∀ l4 : (List Blk), (∀ l5 : (List ByteArray), (∀ i1 : Int, (∀ l6 : (List Tm), (∀ i2 : Int, (((l4 = l) ∧ ((l5 = Sp.letters) ∧ ((0 ≤ i1) ∧ ((i1 < (↑(List.length l) : Int)) ∧ ((0 ≤ i2) ∧ ((i2 ≤ (↑(List.length (Blk.cmds (nth (Inhabited.default) l i1))) : Int)) ∧ (l6 = ((Sp.wrd (Blk.label (nth (Inhabited.default) l i1))) :: (List.map Sp.encC (List.take (Int.toNat i2) (Blk.cmds (nth (Inhabited.default) l i1)))))))))))) → (((0 ≤ i1) ∧ (i1 < (↑(List.length l4) : Int))) ∧ (((List.length (Blk.cmds (nth (Inhabited.default) l4 i1))) < 9223372036854775808) → (ifB (decide (i2 < (↑(List.length (Blk.cmds (nth (Inhabited.default) l4 i1))) : Int))) (((0 ≤ i1) ∧ (i1 < (↑(List.length l4) : Int))) ∧ (((0 ≤ i2) ∧ (i2 < (↑(List.length (Blk.cmds (nth (Inhabited.default) l4 i1))) : Int))) ∧ (((0 ≤ (Cmd.kind (nth (Inhabited.default) (Blk.cmds (nth (Inhabited.default) l4 i1)) i2))) ∧ ((Cmd.kind (nth (Inhabited.default) (Blk.cmds (nth (Inhabited.default) l4 i1)) i2)) < (↑(List.length l5) : Int))) ∧ (∀ x1 : Tm, (((Sp.wrd (nth (⟨#[]⟩ : ByteArray) l5 (Cmd.kind (nth (Inhabited.default) (Blk.cmds (nth (Inhabited.default) l4 i1)) i2)))) = x1) → (ifB ((decide ((Cmd.kind (nth (Inhabited.default) (Blk.cmds (nth (Inhabited.default) l4 i1)) i2)) = 1)) || (decide ((Cmd.kind (nth (Inhabited.default) (Blk.cmds (nth (Inhabited.default) l4 i1)) i2)) = 3))) (ifB (!(decide ((Cmd.label (nth (Inhabited.default) (Blk.cmds (nth (Inhabited.default) l4 i1)) i2)) = (⟨#[]⟩ : ByteArray)))) (∀ x2 : Tm, (((Sp.wrd (Cmd.label (nth (Inhabited.default) (Blk.cmds (nth (Inhabited.default) l4 i1)) i2))) = x2) → ((((List.length l6) + (List.length ((Tm.mk 4 (⟨#[]⟩ : ByteArray) (x1 :: ((Tm.mk (Tm.kind (Cmd.sym (nth (Inhabited.default) (Blk.cmds (nth (Inhabited.default) l4 i1)) i2))) (Tm.text (Cmd.sym (nth (Inhabited.default) (Blk.cmds (nth (Inhabited.default) l4 i1)) i2))) (Tm.kids (Cmd.sym (nth (Inhabited.default) (Blk.cmds (nth (Inhabited.default) l4 i1)) i2)))) :: (x2 :: ([] : (List Tm)))))) :: ([] : (List Tm))))) ≤ 8589934592) ∧ ((inR Go.IntKind.i64 (i2 + 1)) ∧ (((l4 = l) ∧ ((l5 = Sp.letters) ∧ ((0 ≤ i1) ∧ ((i1 < (↑(List.length l) : Int)) ∧ ((0 ≤ (i2 + 1)) ∧ (((i2 + 1) ≤ (↑(List.length (Blk.cmds (nth (Inhabited.default) l i1))) : Int)) ∧ ((l6 ++ ((Tm.mk 4 (⟨#[]⟩ : ByteArray) (x1 :: ((Tm.mk (Tm.kind (Cmd.sym (nth (Inhabited.default) (Blk.cmds (nth (Inhabited.default) l4 i1)) i2))) (Tm.text (Cmd.sym (nth (Inhabited.default) (Blk.cmds (nth (Inhabited.default) l4 i1)) i2))) (Tm.kids (Cmd.sym (nth (Inhabited.default) (Blk.cmds (nth (Inhabited.default) l4 i1)) i2)))) :: (x2 :: ([] : (List Tm)))))) :: ([] : (List Tm)))) = ((Sp.wrd (Blk.label (nth (Inhabited.default) l i1))) :: (List.map Sp.encC (List.take (Int.toNat (i2 + 1)) (Blk.cmds (nth (Inhabited.default) l i1)))))))))))) ∧ (((Int.toNat ((↑(List.length (Blk.cmds (nth (Inhabited.default) l i1))) : Int) - (i2 + 1))) < (Int.toNat ((↑(List.length (Blk.cmds (nth (Inhabited.default) l i1))) : Int) - i2))) ∧ (((LOut.brk (((Sp.wrd (Blk.label (nth (Inhabited.default) l i1))) :: (List.map Sp.encC (Blk.cmds (nth (Inhabited.default) l i1)))), (↑(List.length (Blk.cmds (nth (Inhabited.default) l i1))) : Int))) : (LOut ((List Tm) × Int) (List Tm))) = (LOut.brk (((Sp.wrd (Blk.label (nth (Inhabited.default) l i1))) :: (List.map Sp.encC (Blk.cmds (nth (Inhabited.default) l i1)))), (↑(List.length (Blk.cmds (nth (Inhabited.default) l i1))) : Int)))))))))) ((((List.length l6) + (List.length ((Tm.mk 4 (⟨#[]⟩ : ByteArray) (x1 :: ((Tm.mk (Tm.kind (Cmd.sym (nth (Inhabited.default) (Blk.cmds (nth (Inhabited.default) l4 i1)) i2))) (Tm.text (Cmd.sym (nth (Inhabited.default) (Blk.cmds (nth (Inhabited.default) l4 i1)) i2))) (Tm.kids (Cmd.sym (nth (Inhabited.default) (Blk.cmds (nth (Inhabited.default) l4 i1)) i2)))) :: ([] : (List Tm))))) :: ([] : (List Tm))))) ≤ 8589934592) ∧ ((inR Go.IntKind.i64 (i2 + 1)) ∧ (((l4 = l) ∧ ((l5 = Sp.letters) ∧ ((0 ≤ i1) ∧ ((i1 < (↑(List.length l) : Int)) ∧ ((0 ≤ (i2 + 1)) ∧ (((i2 + 1) ≤ (↑(List.length (Blk.cmds (nth (Inhabited.default) l i1))) : Int)) ∧ ((l6 ++ ((Tm.mk 4 (⟨#[]⟩ : ByteArray) (x1 :: ((Tm.mk (Tm.kind (Cmd.sym (nth (Inhabited.default) (Blk.cmds (nth (Inhabited.default) l4 i1)) i2))) (Tm.text (Cmd.sym (nth (Inhabited.default) (Blk.cmds (nth (Inhabited.default) l4 i1)) i2))) (Tm.kids (Cmd.sym (nth (Inhabited.default) (Blk.cmds (nth (Inhabited.default) l4 i1)) i2)))) :: ([] : (List Tm))))) :: ([] : (List Tm)))) = ((Sp.wrd (Blk.label (nth (Inhabited.default) l i1))) :: (List.map Sp.encC (List.take (Int.toNat (i2 + 1)) (Blk.cmds (nth (Inhabited.default) l i1)))))))))))) ∧ (((Int.toNat ((↑(List.length (Blk.cmds (nth (Inhabited.default) l i1))) : Int) - (i2 + 1))) < (Int.toNat ((↑(List.length (Blk.cmds (nth (Inhabited.default) l i1))) : Int) - i2))) ∧ (((LOut.brk (((Sp.wrd (Blk.label (nth (Inhabited.default) l i1))) :: (List.map Sp.encC (Blk.cmds (nth (Inhabited.default) l i1)))), (↑(List.length (Blk.cmds (nth (Inhabited.default) l i1))) : Int))) : (LOut ((List Tm) × Int) (List Tm))) = (LOut.brk (((Sp.wrd (Blk.label (nth (Inhabited.default) l i1))) :: (List.map Sp.encC (Blk.cmds (nth (Inhabited.default) l i1)))), (↑(List.length (Blk.cmds (nth (Inhabited.default) l i1))) : Int))))))))) (ifB (!(decide ((Cmd.label (nth (Inhabited.default) (Blk.cmds (nth (Inhabited.default) l4 i1)) i2)) = (⟨#[]⟩ : ByteArray)))) (∀ x2 : Tm, (((Sp.wrd (Cmd.label (nth (Inhabited.default) (Blk.cmds (nth (Inhabited.default) l4 i1)) i2))) = x2) → ((((List.length l6) + (List.length ((Tm.mk 4 (⟨#[]⟩ : ByteArray) (x1 :: (x2 :: ([] : (List Tm))))) :: ([] : (List Tm))))) ≤ 8589934592) ∧ ((inR Go.IntKind.i64 (i2 + 1)) ∧ (((l4 = l) ∧ ((l5 = Sp.letters) ∧ ((0 ≤ i1) ∧ ((i1 < (↑(List.length l) : Int)) ∧ ((0 ≤ (i2 + 1)) ∧ (((i2 + 1) ≤ (↑(List.length (Blk.cmds (nth (Inhabited.default) l i1))) : Int)) ∧ ((l6 ++ ((Tm.mk 4 (⟨#[]⟩ : ByteArray) (x1 :: (x2 :: ([] : (List Tm))))) :: ([] : (List Tm)))) = ((Sp.wrd (Blk.label (nth (Inhabited.default) l i1))) :: (List.map Sp.encC (List.take (Int.toNat (i2 + 1)) (Blk.cmds (nth (Inhabited.default) l i1)))))))))))) ∧ (((Int.toNat ((↑(List.length (Blk.cmds (nth (Inhabited.default) l i1))) : Int) - (i2 + 1))) < (Int.toNat ((↑(List.length (Blk.cmds (nth (Inhabited.default) l i1))) : Int) - i2))) ∧ (((LOut.brk (((Sp.wrd (Blk.label (nth (Inhabited.default) l i1))) :: (List.map Sp.encC (Blk.cmds (nth (Inhabited.default) l i1)))), (↑(List.length (Blk.cmds (nth (Inhabited.default) l i1))) : Int))) : (LOut ((List Tm) × Int) (List Tm))) = (LOut.brk (((Sp.wrd (Blk.label (nth (Inhabited.default) l i1))) :: (List.map Sp.encC (Blk.cmds (nth (Inhabited.default) l i1)))), (↑(List.length (Blk.cmds (nth (Inhabited.default) l i1))) : Int)))))))))) ((((List.length l6) + (List.length ((Tm.mk 4 (⟨#[]⟩ : ByteArray) (x1 :: ([] : (List Tm)))) :: ([] : (List Tm))))) ≤ 8589934592) ∧ ((inR Go.IntKind.i64 (i2 + 1)) ∧ (((l4 = l) ∧ ((l5 = Sp.letters) ∧ ((0 ≤ i1) ∧ ((i1 < (↑(List.length l) : Int)) ∧ ((0 ≤ (i2 + 1)) ∧ (((i2 + 1) ≤ (↑(List.length (Blk.cmds (nth (Inhabited.default) l i1))) : Int)) ∧ ((l6 ++ ((Tm.mk 4 (⟨#[]⟩ : ByteArray) (x1 :: ([] : (List Tm)))) :: ([] : (List Tm)))) = ((Sp.wrd (Blk.label (nth (Inhabited.default) l i1))) :: (List.map Sp.encC (List.take (Int.toNat (i2 + 1)) (Blk.cmds (nth (Inhabited.default) l i1)))))))))))) ∧ (((Int.toNat ((↑(List.length (Blk.cmds (nth (Inhabited.default) l i1))) : Int) - (i2 + 1))) < (Int.toNat ((↑(List.length (Blk.cmds (nth (Inhabited.default) l i1))) : Int) - i2))) ∧ (((LOut.brk (((Sp.wrd (Blk.label (nth (Inhabited.default) l i1))) :: (List.map Sp.encC (Blk.cmds (nth (Inhabited.default) l i1)))), (↑(List.length (Blk.cmds (nth (Inhabited.default) l i1))) : Int))) : (LOut ((List Tm) × Int) (List Tm))) = (LOut.brk (((Sp.wrd (Blk.label (nth (Inhabited.default) l i1))) :: (List.map Sp.encC (Blk.cmds (nth (Inhabited.default) l i1)))), (↑(List.length (Blk.cmds (nth (Inhabited.default) l i1))) : Int))))))))))))))) (((LOut.brk (((Sp.wrd (Blk.label (nth (Inhabited.default) l i1))) :: (List.map Sp.encC (Blk.cmds (nth (Inhabited.default) l i1)))), (↑(List.length (Blk.cmds (nth (Inhabited.default) l i1))) : Int))) : (LOut ((List Tm) × Int) (List Tm))) = (LOut.brk (l6, i2))))))))))))
def r32_encode.l0 (l : (List Blk)) : Prop :=
  (∀ l1 : (List Blk), (∀ l2 : (List ByteArray), (∀ l3 : (List Tm), (∀ i : Int, (((l1 = l) ∧ ((l2 = Sp.letters) ∧ ((0 ≤ i) ∧ ((i ≤ (↑(List.length l) : Int)) ∧ (l3 = (Sp.encP (List.take (Int.toNat i) l))))))) → (((List.length l1) < 9223372036854775808) → (ifB (decide (i < (↑(List.length l1) : Int))) (((0 ≤ i) ∧ (i < (↑(List.length l1) : Int))) ∧ (∀ x : Tm, (((Sp.wrd (Blk.label (nth (Inhabited.default) l1 i))) = x) → (((l1 = l) ∧ ((l2 = Sp.letters) ∧ ((0 ≤ i) ∧ ((i < (↑(List.length l) : Int)) ∧ (((0 : Int) ≤ 0) ∧ ((0 ≤ (↑(List.length (Blk.cmds (nth (Inhabited.default) l i))) : Int)) ∧ ((x :: ([] : (List Tm))) = ((Sp.wrd (Blk.label (nth (Inhabited.default) l i))) :: (List.map Sp.encC (List.take (Int.toNat 0) (Blk.cmds (nth (Inhabited.default) l i)))))))))))) ∧ ((r32_encode.l2 l) ∧ (∀ l4 : (List Tm), (∀ i1 : Int, ((((LOut.brk (((Sp.wrd (Blk.label (nth (Inhabited.default) l i))) :: (List.map Sp.encC (Blk.cmds (nth (Inhabited.default) l i)))), (↑(List.length (Blk.cmds (nth (Inhabited.default) l i))) : Int))) : (LOut ((List Tm) × Int) (List Tm))) = (LOut.brk (l4, i1))) → ((((List.length l3) + (List.length ((Tm.mk 4 (⟨#[]⟩ : ByteArray) l4) :: ([] : (List Tm))))) ≤ 8589934592) ∧ ((inR Go.IntKind.i64 (i + 1)) ∧ (((l1 = l) ∧ ((l2 = Sp.letters) ∧ ((0 ≤ (i + 1)) ∧ (((i + 1) ≤ (↑(List.length l) : Int)) ∧ ((l3 ++ ((Tm.mk 4 (⟨#[]⟩ : ByteArray) l4) :: ([] : (List Tm)))) = (Sp.encP (List.take (Int.toNat (i + 1)) l))))))) ∧ (((Int.toNat ((↑(List.length l) : Int) - (i + 1))) < (Int.toNat ((↑(List.length l) : Int) - i))) ∧ (((LOut.brk ((Sp.encP l), (↑(List.length l) : Int))) : (LOut ((List Tm) × Int) (List Tm))) = (LOut.brk ((Sp.encP l), (↑(List.length l) : Int)))))))))))))))) (((LOut.brk ((Sp.encP l), (↑(List.length l) : Int))) : (LOut ((List Tm) × Int) (List Tm))) = (LOut.brk (l3, i))))))))))
def r32_encode.t (l : (List Blk)) : Prop :=
  (((l = l) ∧ ((((⟨#[]⟩ : ByteArray) :: ((⟨#[79]⟩ : ByteArray) :: ((⟨#[82]⟩ : ByteArray) :: ((⟨#[69]⟩ : ByteArray) :: ((⟨#[71]⟩ : ByteArray) :: ((⟨#[72]⟩ : ByteArray) :: ([] : (List ByteArray)))))))) = Sp.letters) ∧ (((0 : Int) ≤ 0) ∧ ((0 ≤ (↑(List.length l) : Int)) ∧ (([] : (List Tm)) = (Sp.encP (List.take (Int.toNat 0) l))))))) ∧ ((r32_encode.l0 l) ∧ (∀ l1 : (List Tm), (∀ i : Int, ((((LOut.brk ((Sp.encP l), (↑(List.length l) : Int))) : (LOut ((List Tm) × Int) (List Tm))) = (LOut.brk (l1, i))) → ((Sp.encP l) = l1))))))
theorem r32_encode.w (l : (List Blk)) : wpF Go.Proofs.Try.prog (lookC [(71, r32_word.C)]) 44 [.lst (.nm 2)] [.lst (.nm 0)] (r32_encode.Λ l) (fun _ => none) l (fun r => (Sp.encP l) = r) = r32_encode.t l := by kernel_rfl
def r32_Encode.t (l : (List Blk)) : Prop :=
  ((∀ x : Blk, ((Membership.mem l x) → (∀ x1 : Cmd, ((Membership.mem (Blk.cmds x) x1) → (Sp.okL ((Cmd.sym x1) :: ([] : (List Tm)))))))) ∧ (∀ i : Int, (((Sp.check l) = i) → (ifB (!(decide (i = 0))) ((ite ((Sp.check l) = 0) ((Sp.encP l), 0) (([] : (List Tm)), (Sp.check l))) = (([] : (List Tm)), i)) (((∀ x : Blk, ((Membership.mem l x) → (((List.length (Blk.cmds x)) ≤ 30) ∧ (∀ x1 : Cmd, ((Membership.mem (Blk.cmds x) x1) → ((0 ≤ (Cmd.kind x1)) ∧ ((Cmd.kind x1) ≤ 5))))))) ∧ ((List.length l) ≤ 30)) ∧ (∀ l1 : (List Tm), (((Sp.encP l) = l1) → ((Sp.okL l1) ∧ (∀ l2 : (List Tm), ((l1 = l2) → ((ite ((Sp.check l) = 0) ((Sp.encP l), 0) (([] : (List Tm)), (Sp.check l))) = (l2, 0))))))))))))
theorem r32_Encode.w (l : (List Blk)) : wpF Go.Proofs.Try.prog (lookC [(16, r32_Check.C), (43, r01_Copy.C), (44, r32_encode.C)]) 18 [.lst (.nm 2)] [.lst (.nm 0), .int .i64] (fun _ => none) (fun _ => none) l (fun r => ((if Sp.check l = 0 then (Sp.encP l, 0) else ([], Sp.check l))) = r) = r32_Encode.t l := by kernel_rfl
def r32_call.t (l : (List Blk)) (inp : (List Tm)) : Prop :=
  (((∀ x : Blk, ((Membership.mem l x) → (((List.length (Blk.cmds x)) ≤ 30) ∧ (∀ x1 : Cmd, ((Membership.mem (Blk.cmds x) x1) → ((0 ≤ (Cmd.kind x1)) ∧ ((Cmd.kind x1) ≤ 5))))))) ∧ ((List.length l) ≤ 30)) ∧ ((((0 : Int) ≤ 0) ∧ (0 < (↑(List.length l) : Int))) ∧ ((((List.length ((Tm.mk 4 (⟨#[]⟩ : ByteArray) (Sp.encP l)) :: ((Sp.wrd (Blk.label (nth (Inhabited.default) l 0))) :: ([] : (List Tm))))) + (List.length inp)) ≤ 8589934592) ∧ ((Sp.okL ((Tm.mk 8 (⟨#[73, 110, 116]⟩ : ByteArray) ((Tm.mk 4 (⟨#[]⟩ : ByteArray) (Sp.encP l)) :: ((Sp.wrd (Blk.label (nth (Inhabited.default) l 0))) :: inp))) :: ([] : (List Tm)))) ∧ (∀ l1 : (List Tm), ((((Tm.mk 8 (⟨#[73, 110, 116]⟩ : ByteArray) ((Tm.mk 4 (⟨#[]⟩ : ByteArray) (Sp.encP l)) :: ((Sp.wrd (Blk.label (nth (Inhabited.default) l 0))) :: inp))) :: ([] : (List Tm))) = l1) → ((Sp.okL l1) ∧ (∀ i : Int, (∀ i1 : Int, ((((↑(Sp.nodesL l1) : Int), (↑(Sp.depthL l1) : Int)) = (i, i1)) → (ifB (decide (4000 < i)) ((Sp.callP l inp) = (([] : (List Tm)), 7)) (ifB (decide (100 < i1)) ((Sp.callP l inp) = (([] : (List Tm)), 6)) ((Sp.callP l inp) = (l1, 0))))))))))))))
theorem r32_call.w (l : (List Blk)) (inp : (List Tm)) : wpF Go.Proofs.Try.prog (lookC [(43, r01_Copy.C), (44, r32_encode.C), (71, r32_word.C), (72, r01_Size.C)]) 46 [.lst (.nm 2), .lst (.nm 0)] [.lst (.nm 0), .int .i64] (fun _ => none) (fun _ => none) (l, inp) (fun r => (Sp.callP l inp) = r) = r32_call.t l inp := by kernel_rfl
def r32_Interpret.t (l : (List Blk)) (inp : (List Tm)) : Prop :=
  ((∀ x : Blk, ((Membership.mem l x) → (∀ x1 : Cmd, ((Membership.mem (Blk.cmds x) x1) → (Sp.okL ((Cmd.sym x1) :: ([] : (List Tm)))))))) ∧ (∀ i : Int, (((Sp.check l) = i) → (ifB (!(decide (i = 0))) ((ite ((Sp.check l) ≠ 0) (([] : (List Tm)), (Sp.check l)) (ite ((Sp.wrong inp 4) ≠ 0) (([] : (List Tm)), (Sp.wrong inp 4)) (Sp.callP l inp))) = (([] : (List Tm)), i)) ((Sp.okL inp) ∧ (∀ i1 : Int, (((Sp.wrong inp 4) = i1) → (ifB (!(decide (i1 = 0))) ((ite ((Sp.check l) ≠ 0) (([] : (List Tm)), (Sp.check l)) (ite ((Sp.wrong inp 4) ≠ 0) (([] : (List Tm)), (Sp.wrong inp 4)) (Sp.callP l inp))) = (([] : (List Tm)), i1)) ((((Sp.check l) = 0) ∧ ((Sp.nodesL inp) ≤ 4000)) ∧ (∀ l1 : (List Tm), (∀ i2 : Int, (((Sp.callP l inp) = (l1, i2)) → ((ite ((Sp.check l) ≠ 0) (([] : (List Tm)), (Sp.check l)) (ite ((Sp.wrong inp 4) ≠ 0) (([] : (List Tm)), (Sp.wrong inp 4)) (Sp.callP l inp))) = (l1, i2))))))))))))))
theorem r32_Interpret.w (l : (List Blk)) (inp : (List Tm)) : wpF Go.Proofs.Try.prog (lookC [(16, r32_Check.C), (35, r01_Value.C), (46, r32_call.C)]) 20 [.lst (.nm 2), .lst (.nm 0)] [.lst (.nm 0), .int .i64] (fun _ => none) (fun _ => none) (l, inp) (fun r => ((if Sp.check l ≠ 0 then ([], Sp.check l) else if Sp.wrong inp 4 ≠ 0 then ([], Sp.wrong inp 4) else Sp.callP l inp)) = r) = r32_Interpret.t l inp := by kernel_rfl
def r32_Config.t (l : (List Blk)) : Prop :=
  ((∀ x : Blk, ((Membership.mem l x) → (∀ x1 : Cmd, ((Membership.mem (Blk.cmds x) x1) → (Sp.okL ((Cmd.sym x1) :: ([] : (List Tm)))))))) ∧ (∀ i : Int, (((Sp.check l) = i) → (ifB (!(decide (i = 0))) ((ite ((Sp.check l) ≠ 0) ((Cfg.mk ([] : (List Tm)) ([] : (List Unq))), (Sp.check l)) ((Cfg.mk (Prod.fst (Sp.callP l Sp.inpW)) ([] : (List Unq))), (Prod.snd (Sp.callP l Sp.inpW)))) = ((Cfg.mk ([] : (List Tm)) ([] : (List Unq))), i)) ((((Sp.check l) = 0) ∧ ((Sp.nodesL ((Tm.mk 7 (⟨#[105, 110, 112, 117, 116]⟩ : ByteArray) ([] : (List Tm))) :: ([] : (List Tm)))) ≤ 4000)) ∧ (∀ l1 : (List Tm), (∀ i1 : Int, (((Sp.callP l ((Tm.mk 7 (⟨#[105, 110, 112, 117, 116]⟩ : ByteArray) ([] : (List Tm))) :: ([] : (List Tm)))) = (l1, i1)) → ((ite ((Sp.check l) ≠ 0) ((Cfg.mk ([] : (List Tm)) ([] : (List Unq))), (Sp.check l)) ((Cfg.mk (Prod.fst (Sp.callP l Sp.inpW)) ([] : (List Unq))), (Prod.snd (Sp.callP l Sp.inpW)))) = ((Cfg.mk l1 ([] : (List Unq))), i1))))))))))
theorem r32_Config.w (l : (List Blk)) : wpF Go.Proofs.Try.prog (lookC [(16, r32_Check.C), (46, r32_call.C)]) 22 [.lst (.nm 2)] [.nm 5, .int .i64] (fun _ => none) (fun _ => none) l (fun r => ((if Sp.check l ≠ 0 then ((Cfg.mk [] []), Sp.check l) else (Cfg.mk (Sp.callP l Sp.inpW).1 [], (Sp.callP l Sp.inpW).2))) = r) = r32_Config.t l := by kernel_rfl
end Go.AL

namespace Go.AL
set_option linter.unusedVariables false
set_option linter.unusedSimpArgs false
set_option maxRecDepth 10000
attribute [local irreducible] wpF wpFX wpM
theorem Sp.cmdsErr_ok {l : List Blk} : ∀ {cs : List Cmd}, Sp.cmdsErr l cs = 0 → ∀ c ∈ cs, Sp.cmdErr l c = 0
  | c :: cs, h, x, hx => by
    rw [Sp.cmdsErr] at h
    split at h
    · rcases List.mem_cons.1 hx with rfl | hx
      · assumption
      · exact Sp.cmdsErr_ok h x hx
    · contradiction
theorem Sp.blksErr_ok {l : List Blk} : ∀ {bs : List Blk}, Sp.blksErr l bs = 0 → ∀ b ∈ bs, Sp.cmdsErr l b.cmds = 0
  | c :: cs, h, x, hx => by
    rw [Sp.blksErr] at h
    split at h
    · rcases List.mem_cons.1 hx with rfl | hx
      · assumption
      · exact Sp.blksErr_ok h x hx
    · contradiction
theorem Sp.labErr_ok {l : List Blk} : ∀ {bs : List Blk} {i : Int}, Sp.labErr l bs i = 0 → ∀ b ∈ bs, Sp.wrong [Sp.wrd b.label] 4 = 0
  | c :: cs, i, h, x, hx => by
    rw [Sp.labErr] at h
    split at h
    · split at h
      · rcases List.mem_cons.1 hx with rfl | hx
        · assumption
        · exact Sp.labErr_ok h x hx
      · cases h
    · cases h
theorem Sp.check_ok {l : List Blk} (h : Sp.check l = 0) : 1 ≤ l.length ∧ l.length ≤ 30 ∧ ∀ b ∈ l, b.cmds.length ≤ 30 ∧ Sp.wrong [Sp.wrd b.label] 4 = 0 ∧ ∀ c ∈ b.cmds, Sp.cmdErr l c = 0 := by
  unfold Sp.check at h
  split at h
  · cases h
  · split at h
    · cases h
    · rename_i h1 h2
      split at h
      · rename_i h3
        refine ⟨by omega, by omega, fun b hb => ⟨?_, Sp.labErr_ok h3 b hb, Sp.cmdsErr_ok (Sp.blksErr_ok h b hb)⟩⟩
        simp only [List.any_eq_true, decide_eq_true_eq, not_exists, not_and] at h2
        have := h2 b hb
        omega
      · contradiction
theorem Sp.cmdErr_ok {l : List Blk} {c : Cmd} (h : Sp.cmdErr l c = 0) : (1 ≤ c.kind ∧ c.kind ≤ 5) ∧ ((c.kind = 1 ∨ c.kind = 3) → Sp.sym c.sym = true ∧ Sp.wrong [c.sym] 4 = 0) ∧ (¬ (c.kind = 1 ∨ c.kind = 3) → Sp.zeroT c.sym = true) ∧ (¬ (c.kind = 2 ∨ c.kind = 3 ∨ c.kind = 4) → c.label = ByteArray.empty) ∧ ((c.kind = 2 ∨ c.kind = 3 ∨ c.kind = 4) → 0 ≤ Sp.find l c.label) := by
  unfold Sp.cmdErr at h
  split at h
  · cases h
  · split at h
    · cases h
    · split at h
      · cases h
      · split at h
        · cases h
        · split at h
          · cases h
          · rename_i h1 h2 h3 h4 h5
            refine ⟨by omega, fun h6 => ?_, fun h6 => ?_, fun h6 => ?_, fun h6 => by omega⟩
            · exact Decidable.byContradiction fun h7 => h2 ⟨h6, h7⟩
            · exact Decidable.byContradiction fun h7 => h3 ⟨h6, h7⟩
            · exact Decidable.byContradiction fun h7 => h4 ⟨h6, h7⟩
theorem Sp.wrong_ok {l : List Tm} {m : Int} (h : Sp.wrong l m = 0) : Sp.nodesL l ≤ 4000 ∧ Sp.depthL l ≤ 100 ∧ Sp.formL l m = true := by
  unfold Sp.wrong at h
  split at h
  · cases h
  · split at h
    · cases h
    · split at h
      · exact ⟨by omega, by omega, by assumption⟩
      · cases h
theorem Sp.nodesL_app (a b : List Tm) : Sp.nodesL (a ++ b) = Sp.nodesL a + Sp.nodesL b := by
  induction a with
  | nil => simp [Sp.nodesL]
  | cons t a ih => simp only [List.cons_append, Sp.nodesL, ih]; omega
theorem Sp.nodesL_map {α : Type} (f : α → Tm) (k : Nat) : ∀ (l : List α), (∀ x ∈ l, Sp.nodesT (f x) ≤ k) → Sp.nodesL (l.map f) ≤ l.length * k
  | [], _ => by simp [Sp.nodesL]
  | x :: l, h => by
    have h1 := h x (by simp)
    have h2 := Sp.nodesL_map f k l fun y hy => h y (by simp [hy])
    simp only [List.map_cons, Sp.nodesL, List.length_cons, Nat.add_mul]; omega
theorem Sp.encC_nodes {l : List Blk} {c : Cmd} (h : Sp.cmdErr l c = 0) : Sp.nodesT (Sp.encC c) ≤ 4003 := by
  have h1 := Sp.cmdErr_ok h
  unfold Sp.encC
  simp only [Sp.nodesT, Sp.nodesL_app]
  have h2 : Sp.nodesL (if c.kind = 1 ∨ c.kind = 3 then [c.sym] else []) ≤ 4000 := by
    split
    · rename_i h3; exact (Sp.wrong_ok (h1.2.1 h3).2).1
    · simp [Sp.nodesL]
  have h3 : Sp.nodesL (if c.label = ByteArray.empty then [] else [Sp.wrd c.label]) ≤ 1 := by
    split <;> simp [Sp.nodesL, Sp.wrd, Sp.nodesT]
  have h4 : Sp.nodesL [Sp.wrd (nth default Sp.letters c.kind)] = 1 := by simp [Sp.nodesL, Sp.wrd, Sp.nodesT]
  omega
theorem Sp.encP_nodes {l : List Blk} (h : Sp.check l = 0) : Sp.nodesL (Sp.encP l) ≤ 3700000 := by
  obtain ⟨h1, h2, h3⟩ := Sp.check_ok h
  have : ∀ b ∈ l, Sp.nodesT (Sp.encB b) ≤ 120092 := by
    intro b hb
    obtain ⟨h4, h5, h6⟩ := h3 b hb
    have := Sp.nodesL_map Sp.encC 4003 b.cmds fun c hc => Sp.encC_nodes (h6 c hc)
    have h7 : b.cmds.length * 4003 ≤ 30 * 4003 := Nat.mul_le_mul_right _ h4
    unfold Sp.encB
    simp only [Sp.nodesT, Sp.nodesL_app]
    have h8 : Sp.nodesL [Sp.wrd b.label] = 1 := by simp [Sp.nodesL, Sp.wrd, Sp.nodesT]
    omega
  have h4 := Sp.nodesL_map Sp.encB 120092 l this
  have h7 : l.length * 120092 ≤ 30 * 120092 := Nat.mul_le_mul_right _ h2
  unfold Sp.encP
  omega
theorem Sp.check_enc {l : List Blk} (h : Sp.check l = 0) : (∀ b ∈ l, b.cmds.length ≤ 30 ∧ ∀ c ∈ b.cmds, 0 ≤ c.kind ∧ c.kind ≤ 5) ∧ l.length ≤ 30 := by
  obtain ⟨h1, h2, h3⟩ := Sp.check_ok h
  exact ⟨fun b hb => ⟨(h3 b hb).1, fun c hc => by have := (Sp.cmdErr_ok ((h3 b hb).2.2 c hc)).1; omega⟩, h2⟩
theorem Sp.wrong_zero_nodes {l : List Tm} {m : Int} (h : Sp.wrong l m = 0) : Sp.nodesL l ≤ 4000 := (Sp.wrong_ok h).1
theorem r01_Copy.l0_ok (l : List Tm) (ha : Sp.okL l) : r01_Copy.l0 l := by
  rintro l1 o i ⟨e, h1, h2, h3⟩ hs
  subst l1
  refine ifD (fun h => ?_) fun h => ?_
  · have hi : i.toNat < l.length := by omega
    have hk := Sp.nodesL_mem (nth_mem (d := default) hi)
    have hlen := Sp.nodesL_len l
    unfold Sp.okL at *
    have e1 : (i + 1).toNat = i.toNat + 1 := by omega
    have hol : o.length = i.toNat := by rw [h3, List.length_take]; omega
    have htk := take_nth (d := default) hi
    rw [← h3] at htk
    simp only [e1, htk, List.length_singleton]
    refine ⟨by omega, by omega, by omega, fun _ => ifD (fun h4 => ⟨by omega, ⟨by omega, by omega⟩, fun l3 hl3 => ?_⟩) fun h4 => ?_⟩
    · subst hl3
      simp only [Tm.eta]
      exact ⟨by omega, inR64 (by omega), ⟨by trivial, by omega, by omega, by trivial⟩, by omega, by trivial⟩
    · have h5 : (nth default l i).kids = [] := List.eq_nil_of_length_eq_zero (by omega)
      have e2 : Tm.mk (nth default l i).kind (nth default l i).text [] = nth default l i := by rw [← h5]; exact Tm.eta _
      rw [e2]
      exact ⟨by omega, inR64 (by omega), ⟨by trivial, by omega, by omega, by trivial⟩, by omega, by trivial⟩
  · rw [h3, List.take_of_length_le (by omega)]; congr 2; omega
theorem r01_Copy.main (l : List Tm) (ha : Sp.okL l) : r01_Copy.t l := by
  refine ⟨⟨rfl, by omega, by omega, by simp⟩, r01_Copy.l0_ok l ha, fun l1 i h => ?_⟩
  simp only [LOut.brk.injEq, Prod.mk.injEq] at h
  exact h.1
theorem r01_Copy.ok (W : World) : CtrOK Go.Proofs.Try.prog W 43 r01_Copy.C := by
  refine funOK_rec (fun (l : (List Tm)) => Sp.nodesL l) (l := []) (fun p hp => by cases hp) (Λ := fun a_ => match a_ with | l => (r01_Copy.Λ l)) (Λr := fun a_ => match a_ with | l => (fun _ => none)) ?_
  intro a ha
  refine Eq.mpr ?_ (@r01_Copy.main a ha)
  kernel_rfl
theorem l09_nodes.l0_ok (l : List Tm) (left depth : Int) (ha : -1 ≤ left ∧ left ≤ 1000000 ∧ 0 ≤ depth ∧ depth ≤ 151) : l09_nodes.l0 l left depth := by
  rintro l1 a b n i ⟨e, e1, e2, h1, h2, h3, h4⟩ hs
  subst l1 a b
  refine ifB_of (fun h => ?_) fun h => ?_
  · simp only [Bool.and_eq_true, Bool.or_eq_true, Bool.not_eq_true', Bool.or_eq_false_iff, Bool.and_eq_false_iff, Bool.not_eq_false', decide_eq_true_eq, decide_eq_false_iff_not, mk_empty] at h
    have hi : i.toNat < l.length := by omega
    have hk := Sp.nodesL_mem (nth_mem (d := default) hi)
    have e1 : (i + 1).toNat = i.toNat + 1 := by omega
    rw [nth_drop (d := default) hi]
    simp only [Sp.cntO]
    rw [if_neg (by omega)]
    refine ifD (fun h5 => ⟨inR64 (by omega), by rw [if_pos h5]⟩) fun h5 => ?_
    rw [if_neg h5]
    refine ⟨by omega, inR64 (by omega), inR64 (by omega), inR64 (by omega), ⟨by omega, by omega⟩, fun c hc => ?_⟩
    have := Sp.cntL_le (nth default l i).kids 0 (left - n - 1) (depth + 1) (by omega) (by omega)
    rw [Sp.cntT_eq, e1]
    rw [hc] at this ⊢
    exact ⟨inR64 (by omega), inR64 (by omega), inR64 (by omega), ⟨by trivial, by trivial, by trivial, by omega⟩, by omega, by trivial⟩
  · simp only [Bool.and_eq_true, Bool.or_eq_true, Bool.not_eq_true', Bool.or_eq_false_iff, Bool.and_eq_false_iff, Bool.not_eq_false', decide_eq_true_eq, decide_eq_false_iff_not, mk_empty] at h
    by_cases hi : i < l.length
    · rw [nth_drop (d := default) (by omega)]; simp only [Sp.cntO]; rw [if_pos (by omega)]
    · rw [List.drop_eq_nil_of_le (by omega)]; simp only [Sp.cntO]
theorem l09_nodes.main (l : List Tm) (left depth : Int) (ha : -1 ≤ left ∧ left ≤ 1000000 ∧ 0 ≤ depth ∧ depth ≤ 151) : l09_nodes.t l left depth :=
  ⟨⟨rfl, rfl, rfl, by omega⟩, l09_nodes.l0_ok l left depth ha, fun x j h => Sp.cntO_brk _ _ _ _ _ _ _ h, fun x h => Sp.cntO_ret _ _ _ _ _ _ h⟩
theorem l09_nodes.ok (W : World) : CtrOK Go.Proofs.Try.prog W 30 l09_nodes.C := by
  refine funOK_rec (fun (a_ : (List Tm) × Int × Int) => match a_ with | (l, left, depth) => Sp.nodesL l) (l := []) (fun p hp => by cases hp) (Λ := fun a_ => match a_ with | (l, left, depth) => (l09_nodes.Λ l left depth)) (Λr := fun a_ => match a_ with | (l, left, depth) => (fun _ => none)) ?_
  intro a ha
  obtain ⟨l, left, depth⟩ := a
  refine Eq.mpr ?_ (@l09_nodes.main l left depth ha)
  kernel_rfl
theorem l09_short.l0_ok (l : List Tm) : l09_short.l0 l := by
  rintro l1 i ⟨e, h1, h2⟩ hs
  subst l1
  refine ifD (fun h => ?_) fun h => ?_
  · have hi : i.toNat < l.length := by omega
    have hk := Sp.nodesL_mem (nth_mem (d := default) hi)
    have e1 : (i + 1).toNat = i.toNat + 1 := by omega
    rw [nth_drop (d := default) hi]
    simp only [Sp.shortL, Sp.shortT_eq, e1]
    refine ⟨by omega, fun _ => ⟨fun _ => by omega, fun _ => ⟨trivial, by omega⟩, ifB_of (fun hb => ?_) fun hb => ⟨inR64 (by omega), ⟨by trivial, by omega⟩, by omega, ?_⟩⟩⟩
    · simp only [Bool.and_eq_true, Bool.or_eq_true, Bool.not_eq_true', Bool.or_eq_false_iff, Bool.and_eq_false_iff, Bool.not_eq_false', decide_eq_true_eq, decide_eq_false_iff_not, mk_empty] at hb
      rw [if_neg]
      rcases hb with hb | hb
      · simp [show ¬ (((nth default l i).text.size : Int) ≤ 600) by omega]
      · simp [hb]
    · simp only [Bool.and_eq_true, Bool.or_eq_true, Bool.not_eq_true', Bool.or_eq_false_iff, Bool.and_eq_false_iff, Bool.not_eq_false', decide_eq_true_eq, decide_eq_false_iff_not, mk_empty] at hb
      simp [hb, show (((nth default l i).text.size : Int) ≤ 600) by omega]
  · rw [List.drop_eq_nil_of_le (by omega)]; simp only [Sp.shortL, if_true]; congr 1; omega
theorem l09_short.main (l : List Tm) : l09_short.t l := by
  refine ⟨⟨rfl, by omega⟩, l09_short.l0_ok l, fun i hi => ?_, fun b hb => ?_⟩
  · split at hi
    · rename_i h; simpa using h
    · simp at hi
  · split at hb
    · simp at hb
    · rename_i h; simp at h hb; simp [h, hb]
theorem l09_short.ok (W : World) : CtrOK Go.Proofs.Try.prog W 31 l09_short.C := by
  refine funOK_rec (fun (l : (List Tm)) => Sp.nodesL l) (l := []) (fun p hp => by cases hp) (Λ := fun a_ => match a_ with | l => (l09_short.Λ l)) (Λr := fun a_ => match a_ with | l => (fun _ => none)) ?_
  intro a ha
  refine Eq.mpr ?_ (@l09_short.main a)
  kernel_rfl
theorem l09_Small.main (l : List Tm) (most : Int) (ha : -1 ≤ most ∧ most ≤ 1000000) : l09_Small.t l most := by
  refine ⟨by omega, fun i hi => ?_⟩
  subst hi; rfl
theorem l09_Small.ok (W : World) : CtrOK Go.Proofs.Try.prog W 7 l09_Small.C := by
  refine funOK (Γ := lookC [(30, l09_nodes.C), (31, l09_short.C)]) (lookC_ok (fun p hp => by
    simp only [List.mem_cons, List.not_mem_nil, or_false] at hp
    rcases hp with rfl | rfl
    · exact l09_nodes.ok W
    · exact l09_short.ok W)) (Λ := fun a_ => match a_ with | (l, most) => (fun _ => none)) (Λr := fun a_ => match a_ with | (l, most) => (fun _ => none)) ?_
  intro a ha
  obtain ⟨l, most⟩ := a
  refine Eq.mpr ?_ (@l09_Small.main l most ha)
  kernel_rfl
theorem r32_find.l0_ok (l : List Blk) (s : ByteArray) : r32_find.l0 l s := by
  rintro l1 s1 i ⟨e, e', h1, h2⟩ hs
  subst l1 s1
  refine ifD (fun h => ?_) fun h => ?_
  · have hi : i.toNat < l.length := by omega
    have e1 : (i + 1).toNat = i.toNat + 1 := by omega
    rw [nth_drop (d := default) hi, Sp.find, e1]
    have := Sp.find_in (l.drop (i.toNat + 1)) s
    refine ⟨by omega, ifD (fun hb => ?_) fun hb => ⟨inR64 (by omega), ⟨by trivial, by trivial, by omega⟩, by omega, ?_⟩⟩
    · rw [if_pos hb, if_neg (by omega)]; simp
    · rw [if_neg hb]
      split
      · simp
      · rw [if_neg (by omega)]; congr 1; omega
  · rw [List.drop_eq_nil_of_le (by omega)]; simp only [Sp.find, if_true]; congr 1; omega
theorem r32_find.main (l : List Blk) (s : ByteArray) : r32_find.t l s := by
  refine ⟨⟨rfl, rfl, by omega⟩, r32_find.l0_ok l s, fun i hi => ?_, fun b hb => ?_⟩
  · split at hi
    · rename_i h; simpa using h
    · simp at hi
  · split at hb
    · simp at hb
    · rename_i h; simpa using hb
theorem r32_find.ok (W : World) : CtrOK Go.Proofs.Try.prog W 36 r32_find.C := by
  refine funOK (Γ := lookC []) (lookC_ok (fun p hp => by cases hp)) (Λ := fun a_ => match a_ with | (l, s) => (r32_find.Λ l s)) (Λr := fun a_ => match a_ with | (l, s) => (fun _ => none)) ?_
  intro a ha
  obtain ⟨l, s⟩ := a
  refine Eq.mpr ?_ (@r32_find.main l s)
  kernel_rfl
theorem r32_command.main (l : List Blk) (c : Cmd) (ha : Sp.okL [c.sym]) : r32_command.t l c := by
  unfold r32_command.t
  simp only [Tm.eta]
  refine ifB_of (fun h => by simp only [Bool.and_eq_true, Bool.or_eq_true, Bool.not_eq_true', Bool.or_eq_false_iff, Bool.and_eq_false_iff, Bool.not_eq_false', decide_eq_true_eq, decide_eq_false_iff_not, mk_empty] at h; rw [Sp.cmdErr, if_pos h]) fun h => ?_
  simp only [Bool.and_eq_true, Bool.or_eq_true, Bool.not_eq_true', Bool.or_eq_false_iff, Bool.and_eq_false_iff, Bool.not_eq_false', decide_eq_true_eq, decide_eq_false_iff_not, mk_empty] at h
  rw [Sp.cmdErr, if_neg (by omega)]
  refine ifB_of (fun h2 => ?_) fun h2 => ?_ <;> simp only [Bool.and_eq_true, Bool.or_eq_true, Bool.not_eq_true', Bool.or_eq_false_iff, Bool.and_eq_false_iff, Bool.not_eq_false', decide_eq_true_eq, decide_eq_false_iff_not, mk_empty] at h2
  · intro b hb
    subst hb
    refine ⟨fun _ => ha, ifB_of (fun h3 => ?_) fun h3 => ?_⟩ <;> simp only [Bool.and_eq_true, Bool.or_eq_true, Bool.not_eq_true', Bool.or_eq_false_iff, Bool.and_eq_false_iff, Bool.not_eq_false', decide_eq_true_eq, decide_eq_false_iff_not, mk_empty] at h3
    · rw [if_pos ⟨h2, fun h4 => h3.elim (fun h3 => by rw [h3] at h4; cases h4.1) fun h3 => h3 h4.2⟩]
    · rw [if_neg (fun h4 => h4.2 (by simpa using h3)), if_neg (fun h4 => h4.1 h2)]
      refine ifB_of (fun h4 => ?_) fun h4 => ?_ <;> simp only [Bool.and_eq_true, Bool.or_eq_true, Bool.not_eq_true', Bool.or_eq_false_iff, Bool.and_eq_false_iff, Bool.not_eq_false', decide_eq_true_eq, decide_eq_false_iff_not, mk_empty] at h4
      · rw [if_pos ⟨by omega, h4.2⟩]
      · rw [if_neg (fun h5 => h4.elim (fun h4 => by omega) fun h4 => h5.2 h4)]
        refine ifB_of (fun h5 => ?_) fun h5 => ?_ <;> simp only [Bool.and_eq_true, Bool.or_eq_true, Bool.not_eq_true', Bool.or_eq_false_iff, Bool.and_eq_false_iff, Bool.not_eq_false', decide_eq_true_eq, decide_eq_false_iff_not, mk_empty] at h5
        · rw [if_pos ⟨by omega, h5.2⟩]
        · rw [if_neg (by omega)]
  · refine ifB_of (fun h3 => ?_) fun h3 => ?_
    · have h4 : ¬ Sp.zeroT c.sym = true := by
        have h5 : (!Sp.zeroT c.sym) = true := h3
        simp only [Bool.and_eq_true, Bool.or_eq_true, Bool.not_eq_true', Bool.or_eq_false_iff, Bool.and_eq_false_iff, Bool.not_eq_false', decide_eq_true_eq, decide_eq_false_iff_not, mk_empty] at h5; simp [h5]
      rw [if_neg (by omega), if_pos ⟨by omega, h4⟩]
    · have h4 : Sp.zeroT c.sym = true := by
        have h5 : (!Sp.zeroT c.sym) = false := h3
        simp only [Bool.and_eq_true, Bool.or_eq_true, Bool.not_eq_true', Bool.or_eq_false_iff, Bool.and_eq_false_iff, Bool.not_eq_false', decide_eq_true_eq, decide_eq_false_iff_not, mk_empty] at h5; simp [h5]
      rw [if_neg (by omega), if_neg (by simp [h4])]
      refine ifB_of (fun h4 => ?_) fun h4 => ?_ <;> simp only [Bool.and_eq_true, Bool.or_eq_true, Bool.not_eq_true', Bool.or_eq_false_iff, Bool.and_eq_false_iff, Bool.not_eq_false', decide_eq_true_eq, decide_eq_false_iff_not, mk_empty] at h4
      · rw [if_pos ⟨by omega, h4.2⟩]
      · rw [if_neg (fun h5 => h4.elim (fun h4 => by omega) fun h4 => h5.2 h4)]
        refine ifB_of (fun h5 => ?_) fun h5 => ?_ <;> simp only [Bool.and_eq_true, Bool.or_eq_true, Bool.not_eq_true', Bool.or_eq_false_iff, Bool.and_eq_false_iff, Bool.not_eq_false', decide_eq_true_eq, decide_eq_false_iff_not, mk_empty] at h5
        · rw [if_pos ⟨by omega, h5.2⟩]
        · rw [if_neg (by omega)]
theorem r32_command.ok (W : World) : CtrOK Go.Proofs.Try.prog W 41 r32_command.C := by
  refine funOK (Γ := lookC [(35, r01_Value.C), (36, r32_find.C), (53, r01_IsSymbol.C)]) (lookC_ok (fun p hp => by
    simp only [List.mem_cons, List.not_mem_nil, or_false] at hp
    rcases hp with rfl | rfl | rfl
    · exact r01_Value.ok W
    · exact r32_find.ok W
    · exact r01_IsSymbol.ok W)) (Λ := fun a_ => match a_ with | (l, c) => (fun _ => none)) (Λr := fun a_ => match a_ with | (l, c) => (fun _ => none)) ?_
  intro a ha
  obtain ⟨l, c⟩ := a
  refine Eq.mpr ?_ (@r32_command.main l c ha)
  kernel_rfl
theorem r32_Check.l0_ok (l : List Blk) : r32_Check.l0 l := by
  rintro l1 i ⟨e, h1, h2⟩ hs
  subst l1
  refine ifD (fun h => ?_) fun h => ?_
  · have hi : i.toNat < l.length := by omega
    have e1 : (i + 1).toNat = i.toNat + 1 := by omega
    rw [nth_drop (d := default) hi, List.any_cons, e1]
    refine ⟨by omega, fun _ => ifD (fun h4 => ?_) fun h4 => ⟨inR64 (by omega), ⟨by trivial, by omega⟩, by omega, ?_⟩⟩
    · rw [if_pos (by simp only [Bool.and_eq_true, Bool.or_eq_true, Bool.not_eq_true', Bool.or_eq_false_iff, Bool.and_eq_false_iff, Bool.not_eq_false', decide_eq_true_eq, decide_eq_false_iff_not, mk_empty]; omega)]
    · rw [show decide (30 < (nth default l i).cmds.length) = false by simp; omega, Bool.false_or]
  · rw [List.drop_eq_nil_of_le (by omega), List.any_nil, if_neg (by simp)]; congr 1; omega
theorem r32_Check.l2_ok (l : List Blk) : r32_Check.l2 l := by
  rintro l1 i ⟨e, h1, h2⟩ hs
  subst l1
  refine ifD (fun h => ?_) fun h => ?_
  · have hi : i.toNat < l.length := by omega
    have e1 : (i + 1).toNat = i.toNat + 1 := by omega
    rw [nth_drop (d := default) hi, Sp.labErr, e1]
    refine ⟨by omega, by simp [Sp.okL, Sp.nodesL, Sp.nodesT], fun w hw => ?_⟩
    have hw' : Sp.wrong [Sp.wrd (nth default l i).label] 4 = w := hw
    rw [hw']
    refine ifN (fun h4 => by rw [if_neg h4, if_neg (by decide)]) fun h4 => ⟨by omega, fun f hf => ?_⟩
    rw [if_pos h4, hf]
    refine ifN (fun h5 => by rw [if_neg h5, if_neg (by decide)]) fun h5 => ⟨inR64 (by omega), ⟨by trivial, by omega⟩, by omega, ?_⟩
    rw [if_pos h5]
  · rw [List.drop_eq_nil_of_le (by omega), Sp.labErr, if_pos rfl]; congr 1; omega
theorem r32_Check.l6_ok (l : List Blk) (ha : ∀ b ∈ l, ∀ c ∈ b.cmds, Sp.okL [c.sym]) : r32_Check.l6 l := by
  rintro l1 i k ⟨e, h1, h2, h3, h4⟩
  subst l1
  refine ⟨by omega, fun hs => ifD (fun h => ?_) fun h => ?_⟩
  · have hi : i.toNat < l.length := by omega
    have hk : k.toNat < (nth default l i).cmds.length := by omega
    have e1 : (k + 1).toNat = k.toNat + 1 := by omega
    rw [nth_drop (d := default) hk, Sp.cmdsErr, e1]
    refine ⟨by omega, by omega, ha _ (nth_mem hi) _ (nth_mem hk), fun w hw => ?_⟩
    rw [hw]
    refine ifN (fun h4 => by rw [if_neg h4, if_neg h4]) fun h4 => ⟨inR64 (by omega), ⟨by trivial, by omega⟩, by omega, ?_⟩
    rw [if_pos h4]
  · rw [List.drop_eq_nil_of_le (by omega), Sp.cmdsErr, if_pos rfl]; congr 1; omega
theorem r32_Check.l4_ok (l : List Blk) (ha : ∀ b ∈ l, ∀ c ∈ b.cmds, Sp.okL [c.sym]) : r32_Check.l4 l := by
  rintro l1 i ⟨e, h1, h2⟩ hs
  subst l1
  refine ifD (fun h => ?_) fun h => ?_
  · have hi : i.toNat < l.length := by omega
    have e1 : (i + 1).toNat = i.toNat + 1 := by omega
    rw [nth_drop (d := default) hi, Sp.blksErr, e1]
    refine ⟨⟨by trivial, by omega⟩, r32_Check.l6_ok l ha, fun k hk => ?_, fun k hk => ?_⟩
    · obtain ⟨h4, -⟩ := ite_brk hk
      rw [Int.toNat_zero, List.drop_zero] at h4
      rw [if_pos h4]
      exact ⟨inR64 (by omega), ⟨by trivial, by omega⟩, by omega, by trivial⟩
    · obtain ⟨h4, rfl⟩ := ite_ret hk
      rw [Int.toNat_zero, List.drop_zero] at h4 ⊢
      rw [if_neg h4, if_neg h4]
  · rw [List.drop_eq_nil_of_le (by omega), Sp.blksErr, if_pos rfl]; congr 1; omega
theorem r32_Check.main (l : List Blk) (ha : ∀ b ∈ l, ∀ c ∈ b.cmds, Sp.okL [c.sym]) : r32_Check.t l := by
  intro hs
  unfold Sp.check
  refine ifB_of (fun h => ?_) fun h => ?_ <;> simp only [Bool.and_eq_true, Bool.or_eq_true, Bool.not_eq_true', Bool.or_eq_false_iff, Bool.and_eq_false_iff, Bool.not_eq_false', decide_eq_true_eq, decide_eq_false_iff_not, mk_empty] at h
  · rw [if_pos (by omega)]
  rw [if_neg (c := l.length < 1 ∨ 30 < l.length) (by omega)]
  refine ⟨⟨by trivial, by omega⟩, r32_Check.l0_ok l, fun i hi => ?_, fun i hi => ?_⟩
  · obtain ⟨h1, -⟩ := ite_brk' hi
    rw [Int.toNat_zero, List.drop_zero] at h1
    rw [if_neg h1]
    refine ⟨⟨by trivial, by omega⟩, r32_Check.l2_ok l, fun i hi => ?_, fun i hi => ?_⟩
    · obtain ⟨h2, -⟩ := ite_brk hi
      rw [Int.toNat_zero, List.drop_zero] at h2
      rw [if_pos h2]
      refine ⟨⟨by trivial, by omega⟩, r32_Check.l4_ok l ha, fun i hi => ?_, fun i hi => ?_⟩
      · obtain ⟨h3, -⟩ := ite_brk hi
        rw [Int.toNat_zero, List.drop_zero] at h3
        exact h3
      · obtain ⟨h3, rfl⟩ := ite_ret hi
        rw [Int.toNat_zero, List.drop_zero]
    · obtain ⟨h2, rfl⟩ := ite_ret hi
      rw [Int.toNat_zero, List.drop_zero] at h2 ⊢
      rw [if_neg h2]
  · obtain ⟨h1, rfl⟩ := ite_ret' hi
    rw [Int.toNat_zero, List.drop_zero] at h1
    rw [if_pos h1]
theorem r32_Check.ok (W : World) : CtrOK Go.Proofs.Try.prog W 16 r32_Check.C := by
  refine funOK (Γ := lookC [(35, r01_Value.C), (36, r32_find.C), (41, r32_command.C)]) (lookC_ok (fun p hp => by
    simp only [List.mem_cons, List.not_mem_nil, or_false] at hp
    rcases hp with rfl | rfl | rfl
    · exact r01_Value.ok W
    · exact r32_find.ok W
    · exact r32_command.ok W)) (Λ := fun a_ => match a_ with | l => (r32_Check.Λ l)) (Λr := fun a_ => match a_ with | l => (fun _ => none)) ?_
  intro a ha
  refine Eq.mpr ?_ (@r32_Check.main a ha)
  kernel_rfl
theorem r32_word.main (s : ByteArray) : r32_word.t s := rfl
theorem r32_word.ok (W : World) : CtrOK Go.Proofs.Try.prog W 71 r32_word.C := by
  refine funOK (Γ := lookC []) (lookC_ok (fun p hp => by cases hp)) (Λ := fun a_ => match a_ with | s => (fun _ => none)) (Λr := fun a_ => match a_ with | s => (fun _ => none)) ?_
  intro a ha
  refine Eq.mpr ?_ (@r32_word.main a)
  kernel_rfl
theorem r32_Run.l0_ok (l : List Blk) (fuel : Int) (hfu : 0 ≤ fuel ∧ fuel ≤ 100000)
    (hc : ∀ b ∈ l, ∀ c ∈ b.cmds, c.kind = 2 ∨ c.kind = 3 ∨ c.kind = 4 → 0 ≤ Sp.find l c.label) : r32_Run.l0 l fuel := by
  rintro l1 f inp out bl at_ n pk pt pl ⟨e, e', h1, h2, h3, h4, h5, h6, h7⟩
  subst l1 f
  have hb : bl.toNat < l.length := by omega
  refine ⟨by omega, fun hs => ifD (fun h => ?_) fun h => ?_⟩
  · have hk : at_.toNat < (nth default l bl).cmds.length := by omega
    have hf := hc _ (nth_mem (d := default) hb) _ (nth_mem (d := default) hk)
    have hin := Sp.find_in l (nth default (nth default l bl).cmds at_).label
    have ho : (out ++ [(nth default (nth default l bl).cmds at_).sym]).length = out.length + 1 := by simp
    simp only [Tm.eta, ho, List.length_singleton]
    refine ifD (fun hn => ?_) fun hn => ?_
    · rw [Sp.iter_inr (by simp only [Sp.refStep]; rw [if_pos h, if_pos hn])]
    have hm : (fuel - n).toNat = (fuel - (n + 1)).toNat + 1 := by omega
    refine ⟨inR64 (by omega), by omega, by omega, inR64 (by omega), ifD (fun hc1 => ?_) fun hc1 => ifD (fun hc2 => ?_) fun hc2 => ifD (fun hc3 => ?_) fun hc3 => ifD (fun hc4 => ?_) fun hc4 => ifD (fun hc5 => ?_) fun hc5 => ?_⟩
    · refine ⟨by omega, fun _ => ifD (fun h8 => ?_) fun h8 => ?_⟩
      · rw [Sp.iter_inr (by simp only [Sp.refStep]; rw [if_pos h, if_neg hn, if_pos hc1, if_pos (by omega)])]
      · refine ⟨⟨by trivial, by trivial, by omega⟩, by omega, ?_⟩
        rw [hm, Sp.iter_inl (k := (fuel - (n + 1)).toNat + 1) (by simp only [Sp.refStep]; rw [if_pos h, if_neg hn, if_pos hc1, if_neg (by omega)])]
    · refine fun _ => ifN (fun h8 => ⟨by omega, ifD (fun h9 => ?_) fun h9 => ⟨by omega, by omega, ?_⟩⟩) fun h8 => ?_
      · rw [Sp.iter_inr (by simp only [Sp.refStep]; rw [if_pos h, if_neg hn, if_neg hc1, if_pos hc2, if_neg (by omega), if_pos h9])]
      · refine ifD (fun h10 => absurd h10 h8) fun _ => ⟨⟨by trivial, by trivial, by omega⟩, by omega, ?_⟩
        rw [hm, Sp.iter_inl (k := (fuel - (n + 1)).toNat + 1) (by simp only [Sp.refStep]; rw [if_pos h, if_neg hn, if_neg hc1, if_pos hc2, if_neg (by omega), if_neg h9])]
        try rfl
      · refine ifD (fun _ => ?_) fun h10 => absurd h8 h10
        intro j hj
        subst hj
        refine ⟨⟨by trivial, by trivial, by omega⟩, by omega, ?_⟩
        rw [hm, Sp.iter_inl (k := (fuel - (n + 1)).toNat + 1) (by simp only [Sp.refStep]; rw [if_pos h, if_neg hn, if_neg hc1, if_pos hc2, if_pos (by omega)])]
    · intro b hb
      subst hb
      refine ifD (fun h8 => ?_) fun h8 => ?_
      · intro j hj
        subst hj
        refine ⟨⟨by trivial, by trivial, by omega⟩, by omega, ?_⟩
        rw [hm, Sp.iter_inl (k := (fuel - (n + 1)).toNat + 1) (by simp only [Sp.refStep]; rw [if_pos h, if_neg hn, if_neg hc1, if_neg hc2, if_pos hc3, if_pos h8])]
      · refine ⟨⟨by trivial, by trivial, by omega⟩, by omega, ?_⟩
        rw [hm, Sp.iter_inl (k := (fuel - (n + 1)).toNat + 1) (by simp only [Sp.refStep]; rw [if_pos h, if_neg hn, if_neg hc1, if_neg hc2, if_pos hc3, if_neg h8])]
    · intro j hj
      subst hj
      refine ⟨⟨by trivial, by trivial, by omega⟩, by omega, ?_⟩
      rw [hm, Sp.iter_inl (k := (fuel - (n + 1)).toNat + 1) (by simp only [Sp.refStep]; rw [if_pos h, if_neg hn, if_neg hc1, if_neg hc2, if_neg hc3, if_pos hc4])]
    · rw [Sp.iter_inr (by simp only [Sp.refStep]; rw [if_pos h, if_neg hn, if_neg hc1, if_neg hc2, if_neg hc3, if_neg hc4, if_pos hc5])]
    · refine ⟨⟨by trivial, by trivial, by omega⟩, by omega, ?_⟩
      rw [hm, Sp.iter_inl (k := (fuel - (n + 1)).toNat + 1) (by simp only [Sp.refStep]; rw [if_pos h, if_neg hn, if_neg hc1, if_neg hc2, if_neg hc3, if_neg hc4, if_neg hc5])]
  · rw [Sp.iter_inr (by simp only [Sp.refStep]; rw [if_neg h])]
theorem r32_Run.main (l : List Blk) (input : List Tm) (fuel : Int) (ha : (∀ b ∈ l, ∀ c ∈ b.cmds, Sp.okL [c.sym]) ∧ Sp.okL input) : r32_Run.t l input fuel := by
  refine ⟨ha.1, fun e he => ?_⟩
  unfold Sp.refRun
  rw [he]
  refine ifN (fun h => by rw [if_pos h]) fun h => ⟨ha.2, fun w hw => ?_⟩
  rw [if_neg (fun hh => hh h), hw]
  refine ifN (fun h1 => by rw [if_pos h1]) fun h1 => ?_
  rw [if_neg (fun hh => hh h1)]
  refine ifB_of (fun h2 => ?_) fun h2 => ?_ <;> simp only [Bool.and_eq_true, Bool.or_eq_true, Bool.not_eq_true', Bool.or_eq_false_iff, Bool.and_eq_false_iff, Bool.not_eq_false', decide_eq_true_eq, decide_eq_false_iff_not, mk_empty] at h2
  · rw [if_pos h2]
  rw [if_neg (by omega), Int.sub_zero]
  rw [h] at he
  obtain ⟨h3, h4, h5⟩ := Sp.check_ok he
  refine ⟨⟨by trivial, by trivial, by omega, by omega, by omega, by omega, by omega, by omega, by simp⟩, r32_Run.l0_ok l fuel (by omega) (fun b hb c hc => (Sp.cmdErr_ok ((h5 b hb).2.2 c hc)).2.2.2.2), ?_, ?_⟩
  · intro a b c d e f s k hk
    rw [show Sp.startW = ⟨#[83, 116, 97, 114, 116]⟩ from rfl, hk]
  · intro a b c hk
    rw [show Sp.startW = ⟨#[83, 116, 97, 114, 116]⟩ from rfl, hk]
theorem r32_Run.ok (W : World) : CtrOK Go.Proofs.Try.prog W 13 r32_Run.C := by
  refine funOK (Γ := lookC [(14, r01_Equal.C), (16, r32_Check.C), (35, r01_Value.C), (36, r32_find.C)]) (lookC_ok (fun p hp => by
    simp only [List.mem_cons, List.not_mem_nil, or_false] at hp
    rcases hp with rfl | rfl | rfl | rfl
    · exact r01_Equal.ok W
    · exact r32_Check.ok W
    · exact r01_Value.ok W
    · exact r32_find.ok W)) (Λ := fun a_ => match a_ with | (l, input, fuel) => (r32_Run.Λ l input fuel)) (Λr := fun a_ => match a_ with | (l, input, fuel) => (fun _ => none)) ?_
  intro a ha
  obtain ⟨l, input, fuel⟩ := a
  refine Eq.mpr ?_ (@r32_Run.main l input fuel ha)
  kernel_rfl
theorem r32_encode.l2_ok (l : List Blk) (ha : (∀ b ∈ l, b.cmds.length ≤ 30 ∧ ∀ c ∈ b.cmds, 0 ≤ c.kind ∧ c.kind ≤ 5) ∧ l.length ≤ 30) : r32_encode.l2 l := by
  rintro l1 le i kids k ⟨e, e', h1, h2, h3, h4, e3⟩
  subst l1 le kids
  refine ⟨by omega, fun hs => ifD (fun h => ?_) fun h => ?_⟩
  · have hi : i.toNat < l.length := by omega
    have hk : k.toNat < (nth default l i).cmds.length := by omega
    have hcm := ha.1 _ (nth_mem (d := default) hi)
    have hkd := hcm.2 _ (nth_mem (d := default) hk)
    have e1 : (k + 1).toNat = k.toNat + 1 := by omega
    have e2 : ∀ x : Tm, ((Sp.wrd (nth default l i).label :: List.map Sp.encC (List.take k.toNat (nth default l i).cmds)).length + [x].length) ≤ 8589934592 := by
      intro x
      simp only [List.length_cons, List.length_map, List.length_take, List.length_nil]; omega
    simp only [e1, take_nth (d := default) hk, List.map_append, List.map_cons, List.map_nil, Tm.eta]
    refine ⟨by omega, by omega, ⟨by omega, by simp only [Sp.letters, List.length_cons, List.length_nil]; omega⟩, fun x1 hx1 => ?_⟩
    subst hx1
    refine ifB_of (fun h5 => ?_) fun h5 => ?_ <;> simp only [Bool.and_eq_true, Bool.or_eq_true, Bool.not_eq_true', Bool.or_eq_false_iff, Bool.and_eq_false_iff, Bool.not_eq_false', decide_eq_true_eq, decide_eq_false_iff_not, mk_empty] at h5
    · refine ifN (fun h6 => ?_) fun h6 => ?_
      · intro x2 hx2
        subst hx2
        refine ⟨e2 _, inR64 (by omega), ⟨by trivial, by trivial, by omega, by omega, by omega, by omega, ?_⟩, by omega, by trivial⟩
        simp only [Sp.encC, if_pos h5]
        simp only [mk_empty] at h6; rw [if_neg h6]; rfl
      · refine ⟨e2 _, inR64 (by omega), ⟨by trivial, by trivial, by omega, by omega, by omega, by omega, ?_⟩, by omega, by trivial⟩
        simp only [Sp.encC, if_pos h5]
        simp only [mk_empty] at h6; rw [if_pos h6]; rfl
    · refine ifN (fun h6 => ?_) fun h6 => ?_
      · intro x2 hx2
        subst hx2
        refine ⟨e2 _, inR64 (by omega), ⟨by trivial, by trivial, by omega, by omega, by omega, by omega, ?_⟩, by omega, by trivial⟩
        simp only [Sp.encC, if_neg (show ¬ ((nth default (nth default l i).cmds k).kind = 1 ∨ (nth default (nth default l i).cmds k).kind = 3) by omega)]
        simp only [mk_empty] at h6; rw [if_neg h6]; rfl
      · refine ⟨e2 _, inR64 (by omega), ⟨by trivial, by trivial, by omega, by omega, by omega, by omega, ?_⟩, by omega, by trivial⟩
        simp only [Sp.encC, if_neg (show ¬ ((nth default (nth default l i).cmds k).kind = 1 ∨ (nth default (nth default l i).cmds k).kind = 3) by omega)]
        simp only [mk_empty] at h6; rw [if_pos h6]; rfl
  · rw [List.take_of_length_le (by omega)]; congr 2; omega
theorem r32_encode.l0_ok (l : List Blk) (ha : (∀ b ∈ l, b.cmds.length ≤ 30 ∧ ∀ c ∈ b.cmds, 0 ≤ c.kind ∧ c.kind ≤ 5) ∧ l.length ≤ 30) : r32_encode.l0 l := by
  rintro l1 le out i ⟨e, e', h1, h2, e3⟩ hs
  subst l1 le out
  refine ifD (fun h => ?_) fun h => ?_
  · have hi : i.toNat < l.length := by omega
    have e1 : (i + 1).toNat = i.toNat + 1 := by omega
    refine ⟨by omega, fun x hx => ?_⟩
    subst hx
    refine ⟨⟨by trivial, by trivial, by omega, by omega, by omega, by omega, by simp⟩, r32_encode.l2_ok l ha, fun kids k hk => ?_⟩
    simp only [LOut.brk.injEq, Prod.mk.injEq] at hk
    obtain ⟨rfl, rfl⟩ := hk
    refine ⟨?_, inR64 (by omega), ⟨by trivial, by trivial, by omega, by omega, ?_⟩, by omega, by trivial⟩
    · simp only [Sp.encP, List.length_map, List.length_take, List.length_cons, List.length_nil]; omega
    · rw [e1, take_nth (d := default) hi]
      simp only [Sp.encP, List.map_append, List.map_cons, List.map_nil]; rfl
  · rw [List.take_of_length_le (by omega)]; congr 2; omega
theorem r32_encode.main (l : List Blk) (ha : (∀ b ∈ l, b.cmds.length ≤ 30 ∧ ∀ c ∈ b.cmds, 0 ≤ c.kind ∧ c.kind ≤ 5) ∧ l.length ≤ 30) : r32_encode.t l := by
  refine ⟨⟨rfl, rfl, by omega, by omega, by simp [Sp.encP]⟩, r32_encode.l0_ok l ha, fun l1 i h => ?_⟩
  simp only [LOut.brk.injEq, Prod.mk.injEq] at h
  exact h.1
theorem r32_encode.ok (W : World) : CtrOK Go.Proofs.Try.prog W 44 r32_encode.C := by
  refine funOK (Γ := lookC [(71, r32_word.C)]) (lookC_ok (fun p hp => by
    simp only [List.mem_cons, List.not_mem_nil, or_false] at hp
    subst hp; exact r32_word.ok W)) (Λ := fun a_ => match a_ with | l => (r32_encode.Λ l)) (Λr := fun a_ => match a_ with | l => (fun _ => none)) ?_
  intro a ha
  refine Eq.mpr ?_ (@r32_encode.main a ha)
  kernel_rfl
theorem r32_Encode.main (l : List Blk) (ha : ∀ b ∈ l, ∀ c ∈ b.cmds, Sp.okL [c.sym]) : r32_Encode.t l := by
  refine ⟨ha, fun e he => ?_⟩
  rw [he]
  refine ifN (fun h => by rw [if_neg h]) fun h => ?_
  rw [if_pos h]
  rw [h] at he
  refine ⟨Sp.check_enc he, fun x hx => ?_⟩
  subst hx
  refine ⟨by have := Sp.encP_nodes he; unfold Sp.okL; omega, fun y hy => by rw [hy]⟩
theorem r32_Encode.ok (W : World) : CtrOK Go.Proofs.Try.prog W 18 r32_Encode.C := by
  refine funOK (Γ := lookC [(16, r32_Check.C), (43, r01_Copy.C), (44, r32_encode.C)]) (lookC_ok (fun p hp => by
    simp only [List.mem_cons, List.not_mem_nil, or_false] at hp
    rcases hp with rfl | rfl | rfl
    · exact r32_Check.ok W
    · exact r01_Copy.ok W
    · exact r32_encode.ok W)) (Λ := fun a_ => match a_ with | l => (fun _ => none)) (Λr := fun a_ => match a_ with | l => (fun _ => none)) ?_
  intro a ha
  refine Eq.mpr ?_ (@r32_Encode.main a ha)
  kernel_rfl
theorem r32_call.main (l : List Blk) (inp : List Tm) (ha : Sp.check l = 0 ∧ Sp.nodesL inp ≤ 4000) : r32_call.t l inp := by
  obtain ⟨h1, h2, h3⟩ := Sp.check_ok ha.1
  have hn := Sp.encP_nodes ha.1
  have hl := Sp.nodesL_len inp
  refine ⟨Sp.check_enc ha.1, by omega, by simp only [List.length_cons, List.length_nil]; omega, ?_, fun x hx => ?_⟩
  · simp only [Sp.okL, Sp.nodesL, Sp.nodesT, Sp.wrd]; omega
  · refine ⟨by rw [← hx]; simp only [Sp.okL, Sp.nodesL, Sp.nodesT, Sp.wrd]; omega, fun n d hnd => ?_⟩
    simp only [Prod.mk.injEq] at hnd
    obtain ⟨rfl, rfl⟩ := hnd
    have e : Sp.callP l inp = if 4000 < Sp.nodesL x then ([], 7) else if 100 < Sp.depthL x then ([], 6) else (x, 0) := by
      rw [← hx]; rfl
    rw [e]
    refine ifD (fun h => by rw [if_pos (by omega)]) fun h => ?_
    rw [if_neg (c := 4000 < Sp.nodesL x) (by omega)]
    exact ifD (fun h => by rw [if_pos (by omega)]) fun h => by rw [if_neg (by omega)]
theorem r32_call.ok (W : World) : CtrOK Go.Proofs.Try.prog W 46 r32_call.C := by
  refine funOK (Γ := lookC [(43, r01_Copy.C), (44, r32_encode.C), (71, r32_word.C), (72, r01_Size.C)]) (lookC_ok (fun p hp => by
    simp only [List.mem_cons, List.not_mem_nil, or_false] at hp
    rcases hp with rfl | rfl | rfl | rfl
    · exact r01_Copy.ok W
    · exact r32_encode.ok W
    · exact r32_word.ok W
    · exact r01_Size.ok W)) (Λ := fun a_ => match a_ with | (l, inp) => (fun _ => none)) (Λr := fun a_ => match a_ with | (l, inp) => (fun _ => none)) ?_
  intro a ha
  obtain ⟨l, inp⟩ := a
  refine Eq.mpr ?_ (@r32_call.main l inp ha)
  kernel_rfl
theorem r32_Interpret.main (l : List Blk) (inp : List Tm) (ha : (∀ b ∈ l, ∀ c ∈ b.cmds, Sp.okL [c.sym]) ∧ Sp.okL inp) : r32_Interpret.t l inp := by
  refine ⟨ha.1, fun e he => ?_⟩
  rw [he]
  refine ifN (fun h => by rw [if_pos h]) fun h => ⟨ha.2, fun w hw => ?_⟩
  rw [if_neg (fun hh => hh h), hw]
  refine ifN (fun h1 => by rw [if_pos h1]) fun h1 => ?_
  rw [if_neg (fun hh => hh h1)]
  rw [h1] at hw
  exact ⟨⟨h, (Sp.wrong_ok hw).1⟩, fun a b hab => hab⟩
theorem r32_Interpret.ok (W : World) : CtrOK Go.Proofs.Try.prog W 20 r32_Interpret.C := by
  refine funOK (Γ := lookC [(16, r32_Check.C), (35, r01_Value.C), (46, r32_call.C)]) (lookC_ok (fun p hp => by
    simp only [List.mem_cons, List.not_mem_nil, or_false] at hp
    rcases hp with rfl | rfl | rfl
    · exact r32_Check.ok W
    · exact r01_Value.ok W
    · exact r32_call.ok W)) (Λ := fun a_ => match a_ with | (l, inp) => (fun _ => none)) (Λr := fun a_ => match a_ with | (l, inp) => (fun _ => none)) ?_
  intro a ha
  obtain ⟨l, inp⟩ := a
  refine Eq.mpr ?_ (@r32_Interpret.main l inp ha)
  kernel_rfl
theorem r32_Config.main (l : List Blk) (ha : ∀ b ∈ l, ∀ c ∈ b.cmds, Sp.okL [c.sym]) : r32_Config.t l := by
  refine ⟨ha, fun e he => ?_⟩
  rw [he]
  refine ifN (fun h => by rw [if_pos h]) fun h => ?_
  rw [if_neg (fun hh => hh h)]
  refine ⟨⟨h, by simp [Sp.nodesL, Sp.nodesT]⟩, fun a b hab => ?_⟩
  have : Sp.callP l Sp.inpW = (a, b) := hab
  rw [this]
theorem r32_Config.ok (W : World) : CtrOK Go.Proofs.Try.prog W 22 r32_Config.C := by
  refine funOK (Γ := lookC [(16, r32_Check.C), (46, r32_call.C)]) (lookC_ok (fun p hp => by
    simp only [List.mem_cons, List.not_mem_nil, or_false] at hp
    rcases hp with rfl | rfl
    · exact r32_Check.ok W
    · exact r32_call.ok W)) (Λ := fun a_ => match a_ with | l => (fun _ => none)) (Λr := fun a_ => match a_ with | l => (fun _ => none)) ?_
  intro a ha
  refine Eq.mpr ?_ (@r32_Config.main a ha)
  kernel_rfl
end Go.AL
