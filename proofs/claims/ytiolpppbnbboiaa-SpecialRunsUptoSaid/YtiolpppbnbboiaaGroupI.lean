/- Functions of the program: what they return, and that they do. -/
import Derived.Test.YtiolpppbnbboiaaGroupH
import Derived.Test.YtiolpppbnbboiaaGroupC
import Derived.Test.YtiolpppbnbboiaaProg
import Derived.KernelRfl
import Derived.Test.YtiolpppbnbboiaaEvalC

namespace Go.AL
set_option linter.unusedVariables false
end Go.AL
namespace Sp
open Go.AL
def encC' (c : Cmd) : Tm := .mk 4 ⟨#[]⟩ (([wrd (nth default letters c.kind)] ++ if c.kind = 1 ∨ c.kind = 3 then [.mk c.sym.kind c.sym.text []] else []) ++ if c.kind = 2 ∨ c.kind = 3 ∨ c.kind = 4 then [wrd c.label] else [])
def srcT : ByteArray := ⟨#[36, 69, 78, 84, 82, 89, 32, 73, 110, 116, 32, 123, 32, 40, 101, 46, 112, 41, 32, 115, 46, 108, 32, 101, 46, 105, 32, 61, 32, 60, 71, 111, 32, 40, 101, 46, 112, 41, 32, 115, 46, 108, 32, 83, 116, 97, 114, 116, 32, 101, 46, 105, 62, 59, 32, 125, 10, 71, 111, 32, 123, 32, 40, 101, 46, 112, 41, 32, 115, 46, 108, 32, 115, 46, 114, 32, 101, 46, 105, 32, 61, 32, 60, 68, 111, 32, 40, 101, 46, 112, 41, 32, 40, 60, 70, 105, 110, 100, 32, 115, 46, 108, 32, 101, 46, 112, 62, 41, 32, 115, 46, 114, 32, 101, 46, 105, 62, 59, 32, 125, 10, 70, 105, 110, 100, 32, 123, 10, 32, 32, 115, 46, 108, 32, 40, 115, 46, 108, 32, 101, 46, 99, 41, 32, 101, 46, 112, 32, 61, 32, 101, 46, 99, 59, 10, 32, 32, 115, 46, 108, 32, 40, 115, 46, 107, 32, 101, 46, 99, 41, 32, 101, 46, 112, 32, 61, 32, 60, 70, 105, 110, 100, 32, 115, 46, 108, 32, 101, 46, 112, 62, 59, 10, 125, 10, 68, 111, 32, 123, 10, 32, 32, 40, 101, 46, 112, 41, 32, 40, 40, 79, 32, 115, 46, 120, 41, 32, 101, 46, 99, 41, 32, 115, 46, 114, 32, 101, 46, 105, 32, 61, 32, 115, 46, 120, 32, 60, 68, 111, 32, 40, 101, 46, 112, 41, 32, 40, 101, 46, 99, 41, 32, 115, 46, 114, 32, 101, 46, 105, 62, 59, 10, 32, 32, 40, 101, 46, 112, 41, 32, 40, 40, 82, 32, 115, 46, 108, 41, 32, 101, 46, 99, 41, 32, 115, 46, 114, 32, 115, 46, 120, 32, 101, 46, 105, 32, 61, 32, 60, 68, 111, 32, 40, 101, 46, 112, 41, 32, 40, 101, 46, 99, 41, 32, 115, 46, 120, 32, 101, 46, 105, 62, 59, 10, 32, 32, 40, 101, 46, 112, 41, 32, 40, 40, 82, 32, 115, 46, 108, 41, 32, 101, 46, 99, 41, 32, 115, 46, 114, 32, 61, 32, 60, 71, 111, 32, 40, 101, 46, 112, 41, 32, 115, 46, 108, 32, 115, 46, 114, 62, 59, 10, 32, 32, 40, 101, 46, 112, 41, 32, 40, 40, 69, 32, 115, 46, 120, 32, 115, 46, 108, 41, 32, 101, 46, 99, 41, 32, 115, 46, 120, 32, 101, 46, 105, 32, 61, 32, 60, 71, 111, 32, 40, 101, 46, 112, 41, 32, 115, 46, 108, 32, 115, 46, 120, 32, 101, 46, 105, 62, 59, 10, 32, 32, 40, 101, 46, 112, 41, 32, 40, 40, 69, 32, 115, 46, 120, 32, 115, 46, 108, 41, 32, 101, 46, 99, 41, 32, 115, 46, 114, 32, 101, 46, 105, 32, 61, 32, 60, 68, 111, 32, 40, 101, 46, 112, 41, 32, 40, 101, 46, 99, 41, 32, 115, 46, 114, 32, 101, 46, 105, 62, 59, 10, 32, 32, 40, 101, 46, 112, 41, 32, 40, 40, 71, 32, 115, 46, 108, 41, 32, 101, 46, 99, 41, 32, 115, 46, 114, 32, 101, 46, 105, 32, 61, 32, 60, 71, 111, 32, 40, 101, 46, 112, 41, 32, 115, 46, 108, 32, 115, 46, 114, 32, 101, 46, 105, 62, 59, 10, 32, 32, 40, 101, 46, 112, 41, 32, 40, 40, 72, 41, 32, 101, 46, 99, 41, 32, 115, 46, 114, 32, 101, 46, 105, 32, 61, 32, 59, 10, 32, 32, 40, 101, 46, 112, 41, 32, 40, 41, 32, 115, 46, 114, 32, 101, 46, 105, 32, 61, 32, 59, 10, 125, 10]⟩
def encB' (b : Blk) : Tm := .mk 4 ⟨#[]⟩ ([wrd b.label] ++ b.cmds.map encC')
end Sp
namespace Go.AL

def r32_Source.C : Ctr := pureCtr [] [.str] none (fun (_ : Unit) => Sp.srcT)

def special_Source.C : Ctr := pureCtr [] [.str] none (fun (_ : Unit) => Sp.srcT)
def special_encode_1.C : Ctr := pureCtr [.lst (.nm 0)] [.nm 0] none (fun (l : (List Tm)) => (Tm.mk 4 ⟨#[]⟩ l))
def special_encode.L0 : LD := { cs := [12, 13], cts := [.lst (.nm 2), .int .i64], pts := [(3, (.fn 70 [] []))], vs := [4, 14], os := [], vts := [.lst (.nm 0), .int .i64], own := [true, false], ro := [0, 2, 3, 12, 13], nx := 100 }
def special_encode.L2 : LD := { cs := [23, 24], cts := [.lst (.nm 1), .int .i64], pts := [(3, (.fn 70 [] []))], vs := [7, 25], os := [], vts := [.lst (.nm 0), .int .i64], own := [true, false], ro := [12, 13, 3, 4, 14, 15, 16, 17, 6, 18, 19, 20, 21, 22, 23, 24, 0, 2], nx := 200 }
def special_encode.Λ (l : (List Blk)) : Nat → Option (Loop (ElT [.lst (.nm 0)])) := fun id =>
  if id = 0 then some (mkLoop special_encode.L0
    (fun (c_ : (List Blk) × Int) (s_ : (List Tm) × Int) => match c_, s_ with | (xs, n), (out, i) => xs = l ∧ n = l.length ∧ 0 ≤ i ∧ i ≤ l.length ∧ out = (l.take i.toNat).map Sp.encB')
    (fun (c_ : (List Blk) × Int) (s_ : (List Tm) × Int) => match c_, s_ with | (xs, n), (out, i) => (l.length - i : Int).toNat)
    (fun (c_ : (List Blk) × Int) (s_ : (List Tm) × Int) => match c_, s_ with | (xs, n), (out, i) => .brk (l.map Sp.encB', (l.length : Int))) [] false) else
  if id = 2 then some (mkLoop special_encode.L2
    (fun (c_ : (List Cmd) × Int) (s_ : (List Tm) × Int) => match c_, s_ with | (cs, n), (kids, k) => n = cs.length ∧ cs.length ≤ 30 ∧ (∀ c ∈ cs, 0 ≤ c.kind ∧ c.kind ≤ 5) ∧ 0 ≤ k ∧ k ≤ cs.length ∧ ∃ s, kids = [Sp.wrd s] ++ (cs.take k.toNat).map Sp.encC')
    (fun (c_ : (List Cmd) × Int) (s_ : (List Tm) × Int) => match c_, s_ with | (cs, n), (kids, k) => (cs.length - k : Int).toNat)
    (fun (c_ : (List Cmd) × Int) (s_ : (List Tm) × Int) => match c_, s_ with | (cs, n), (kids, k) => .brk (kids.take 1 ++ cs.map Sp.encC', (cs.length : Int))) [] false) else
  none
def special_encode.C : Ctr := pureCtr [.lst (.nm 2)] [.lst (.nm 0)] (some (fun (l : (List Blk)) => (∀ b ∈ l, b.cmds.length ≤ 30 ∧ ∀ c ∈ b.cmds, 0 ≤ c.kind ∧ c.kind ≤ 5) ∧ l.length ≤ 30)) (fun (l : (List Blk)) => (l.map Sp.encB'))
def special_Encode.C : Ctr := pureCtr [.lst (.nm 2)] [.lst (.nm 0), .int .i64] (some (fun (l : (List Blk)) => ∀ b ∈ l, ∀ c ∈ b.cmds, Sp.okL [c.sym])) (fun (l : (List Blk)) => ((if Sp.check l = 0 then (Sp.encP l, 0) else ([], Sp.check l))))
def special_call.C : Ctr := pureCtr [.lst (.nm 2), .lst (.nm 0)] [.lst (.nm 0), .int .i64] (some (fun (a_ : (List Blk) × (List Tm)) => match a_ with | (l, inp) => Sp.check l = 0 ∧ Sp.nodesL inp ≤ 4000)) (fun (a_ : (List Blk) × (List Tm)) => match a_ with | (l, inp) => (Sp.callP l inp))
def special_Interpret.C : Ctr := pureCtr [.lst (.nm 2), .lst (.nm 0)] [.lst (.nm 0), .int .i64] (some (fun (a_ : (List Blk) × (List Tm)) => match a_ with | (l, inp) => (∀ b ∈ l, ∀ c ∈ b.cmds, Sp.okL [c.sym]) ∧ Sp.okL inp)) (fun (a_ : (List Blk) × (List Tm)) => match a_ with | (l, inp) => ((if Sp.check l ≠ 0 then ([], Sp.check l) else if Sp.wrong inp 4 ≠ 0 then ([], Sp.wrong inp 4) else Sp.callP l inp)))
def special_Config.C : Ctr := pureCtr [.lst (.nm 2)] [.nm 5, .int .i64] (some (fun (l : (List Blk)) => ∀ b ∈ l, ∀ c ∈ b.cmds, Sp.okL [c.sym])) (fun (l : (List Blk)) => ((if Sp.check l ≠ 0 then ((Cfg.mk [] []), Sp.check l) else (Cfg.mk (Sp.callP l Sp.inpW).1 [], (Sp.callP l Sp.inpW).2))))
end Go.AL

namespace Go.AL
set_option linter.unusedVariables false
set_option maxRecDepth 10000
def special_encode_1.t (l : (List Tm)) : Prop :=
  ((Tm.mk 4 (⟨#[]⟩ : ByteArray) l) = (Tm.mk 4 (⟨#[]⟩ : ByteArray) l))
theorem special_encode_1.w (l : (List Tm)) : wpF Go.Proofs.Try.prog (lookC []) 70 [.lst (.nm 0)] [.nm 0] (fun _ => none) (fun _ => none) l (fun r => (Tm.mk 4 ⟨#[]⟩ l) = r) = special_encode_1.t l := by kernel_rfl
def special_encode.l2 : Prop :=
  (∀ l3 : (List Cmd), (∀ i2 : Int, (∀ l4 : (List Tm), (∀ i3 : Int, (((i2 = (↑(List.length l3) : Int)) ∧ (((List.length l3) ≤ 30) ∧ ((∀ x1 : Cmd, ((Membership.mem l3 x1) → ((0 ≤ (Cmd.kind x1)) ∧ ((Cmd.kind x1) ≤ 5)))) ∧ ((0 ≤ i3) ∧ ((i3 ≤ (↑(List.length l3) : Int)) ∧ (Exists (fun s : ByteArray => (l4 = ((Sp.wrd s) :: (List.map Sp.encC' (List.take (Int.toNat i3) l3))))))))))) → (ifB (decide (i3 < i2)) (((0 ≤ i3) ∧ (i3 < (↑(List.length l3) : Int))) ∧ (((0 ≤ (Cmd.kind (nth (Inhabited.default) l3 i3))) ∧ ((Cmd.kind (nth (Inhabited.default) l3 i3)) < (↑6 : Int))) ∧ (∀ x1 : Tm, (((Sp.wrd (nth (⟨#[]⟩ : ByteArray) ((⟨#[]⟩ : ByteArray) :: ((⟨#[79]⟩ : ByteArray) :: ((⟨#[82]⟩ : ByteArray) :: ((⟨#[69]⟩ : ByteArray) :: ((⟨#[71]⟩ : ByteArray) :: ((⟨#[72]⟩ : ByteArray) :: ([] : (List ByteArray)))))))) (Cmd.kind (nth (Inhabited.default) l3 i3)))) = x1) → (ifB (nth Bool.false (Bool.false :: (Bool.true :: (Bool.false :: (Bool.true :: (Bool.false :: (Bool.false :: ([] : (List Bool)))))))) (Cmd.kind (nth (Inhabited.default) l3 i3))) (ifB (nth Bool.false (Bool.false :: (Bool.false :: (Bool.true :: (Bool.true :: (Bool.true :: (Bool.false :: ([] : (List Bool)))))))) (Cmd.kind (nth (Inhabited.default) l3 i3))) (∀ x2 : Tm, (((Sp.wrd (Cmd.label (nth (Inhabited.default) l3 i3))) = x2) → (∀ x3 : Tm, (((Tm.mk 4 (⟨#[]⟩ : ByteArray) (x1 :: ((Tm.mk (Tm.kind (Cmd.sym (nth (Inhabited.default) l3 i3))) (Tm.text (Cmd.sym (nth (Inhabited.default) l3 i3))) ([] : (List Tm))) :: (x2 :: ([] : (List Tm)))))) = x3) → ((((List.length l4) + (List.length (x3 :: ([] : (List Tm))))) ≤ 8589934592) ∧ ((inR Go.IntKind.i64 (i3 + 1)) ∧ (((i2 = (↑(List.length l3) : Int)) ∧ (((List.length l3) ≤ 30) ∧ ((∀ x4 : Cmd, ((Membership.mem l3 x4) → ((0 ≤ (Cmd.kind x4)) ∧ ((Cmd.kind x4) ≤ 5)))) ∧ ((0 ≤ (i3 + 1)) ∧ (((i3 + 1) ≤ (↑(List.length l3) : Int)) ∧ (Exists (fun s : ByteArray => ((l4 ++ (x3 :: ([] : (List Tm)))) = ((Sp.wrd s) :: (List.map Sp.encC' (List.take (Int.toNat (i3 + 1)) l3))))))))))) ∧ (((Int.toNat ((↑(List.length l3) : Int) - (i3 + 1))) < (Int.toNat ((↑(List.length l3) : Int) - i3))) ∧ (((LOut.brk (((List.take 1 (l4 ++ (x3 :: ([] : (List Tm))))) ++ (List.map Sp.encC' l3)), (↑(List.length l3) : Int))) : (LOut ((List Tm) × Int) (List Tm))) = (LOut.brk (((List.take 1 l4) ++ (List.map Sp.encC' l3)), (↑(List.length l3) : Int)))))))))))) (∀ x2 : Tm, (((Tm.mk 4 (⟨#[]⟩ : ByteArray) (x1 :: ((Tm.mk (Tm.kind (Cmd.sym (nth (Inhabited.default) l3 i3))) (Tm.text (Cmd.sym (nth (Inhabited.default) l3 i3))) ([] : (List Tm))) :: ([] : (List Tm))))) = x2) → ((((List.length l4) + (List.length (x2 :: ([] : (List Tm))))) ≤ 8589934592) ∧ ((inR Go.IntKind.i64 (i3 + 1)) ∧ (((i2 = (↑(List.length l3) : Int)) ∧ (((List.length l3) ≤ 30) ∧ ((∀ x3 : Cmd, ((Membership.mem l3 x3) → ((0 ≤ (Cmd.kind x3)) ∧ ((Cmd.kind x3) ≤ 5)))) ∧ ((0 ≤ (i3 + 1)) ∧ (((i3 + 1) ≤ (↑(List.length l3) : Int)) ∧ (Exists (fun s : ByteArray => ((l4 ++ (x2 :: ([] : (List Tm)))) = ((Sp.wrd s) :: (List.map Sp.encC' (List.take (Int.toNat (i3 + 1)) l3))))))))))) ∧ (((Int.toNat ((↑(List.length l3) : Int) - (i3 + 1))) < (Int.toNat ((↑(List.length l3) : Int) - i3))) ∧ (((LOut.brk (((List.take 1 (l4 ++ (x2 :: ([] : (List Tm))))) ++ (List.map Sp.encC' l3)), (↑(List.length l3) : Int))) : (LOut ((List Tm) × Int) (List Tm))) = (LOut.brk (((List.take 1 l4) ++ (List.map Sp.encC' l3)), (↑(List.length l3) : Int))))))))))) (ifB (nth Bool.false (Bool.false :: (Bool.false :: (Bool.true :: (Bool.true :: (Bool.true :: (Bool.false :: ([] : (List Bool)))))))) (Cmd.kind (nth (Inhabited.default) l3 i3))) (∀ x2 : Tm, (((Sp.wrd (Cmd.label (nth (Inhabited.default) l3 i3))) = x2) → (∀ x3 : Tm, (((Tm.mk 4 (⟨#[]⟩ : ByteArray) (x1 :: (x2 :: ([] : (List Tm))))) = x3) → ((((List.length l4) + (List.length (x3 :: ([] : (List Tm))))) ≤ 8589934592) ∧ ((inR Go.IntKind.i64 (i3 + 1)) ∧ (((i2 = (↑(List.length l3) : Int)) ∧ (((List.length l3) ≤ 30) ∧ ((∀ x4 : Cmd, ((Membership.mem l3 x4) → ((0 ≤ (Cmd.kind x4)) ∧ ((Cmd.kind x4) ≤ 5)))) ∧ ((0 ≤ (i3 + 1)) ∧ (((i3 + 1) ≤ (↑(List.length l3) : Int)) ∧ (Exists (fun s : ByteArray => ((l4 ++ (x3 :: ([] : (List Tm)))) = ((Sp.wrd s) :: (List.map Sp.encC' (List.take (Int.toNat (i3 + 1)) l3))))))))))) ∧ (((Int.toNat ((↑(List.length l3) : Int) - (i3 + 1))) < (Int.toNat ((↑(List.length l3) : Int) - i3))) ∧ (((LOut.brk (((List.take 1 (l4 ++ (x3 :: ([] : (List Tm))))) ++ (List.map Sp.encC' l3)), (↑(List.length l3) : Int))) : (LOut ((List Tm) × Int) (List Tm))) = (LOut.brk (((List.take 1 l4) ++ (List.map Sp.encC' l3)), (↑(List.length l3) : Int)))))))))))) (∀ x2 : Tm, (((Tm.mk 4 (⟨#[]⟩ : ByteArray) (x1 :: ([] : (List Tm)))) = x2) → ((((List.length l4) + (List.length (x2 :: ([] : (List Tm))))) ≤ 8589934592) ∧ ((inR Go.IntKind.i64 (i3 + 1)) ∧ (((i2 = (↑(List.length l3) : Int)) ∧ (((List.length l3) ≤ 30) ∧ ((∀ x3 : Cmd, ((Membership.mem l3 x3) → ((0 ≤ (Cmd.kind x3)) ∧ ((Cmd.kind x3) ≤ 5)))) ∧ ((0 ≤ (i3 + 1)) ∧ (((i3 + 1) ≤ (↑(List.length l3) : Int)) ∧ (Exists (fun s : ByteArray => ((l4 ++ (x2 :: ([] : (List Tm)))) = ((Sp.wrd s) :: (List.map Sp.encC' (List.take (Int.toNat (i3 + 1)) l3))))))))))) ∧ (((Int.toNat ((↑(List.length l3) : Int) - (i3 + 1))) < (Int.toNat ((↑(List.length l3) : Int) - i3))) ∧ (((LOut.brk (((List.take 1 (l4 ++ (x2 :: ([] : (List Tm))))) ++ (List.map Sp.encC' l3)), (↑(List.length l3) : Int))) : (LOut ((List Tm) × Int) (List Tm))) = (LOut.brk (((List.take 1 l4) ++ (List.map Sp.encC' l3)), (↑(List.length l3) : Int)))))))))))))))) (((LOut.brk (((List.take 1 l4) ++ (List.map Sp.encC' l3)), (↑(List.length l3) : Int))) : (LOut ((List Tm) × Int) (List Tm))) = (LOut.brk (l4, i3)))))))))
def special_encode.l0 (l : (List Blk)) : Prop :=
  (∀ l1 : (List Blk), (∀ i : Int, (∀ l2 : (List Tm), (∀ i1 : Int, (((l1 = l) ∧ ((i = (↑(List.length l) : Int)) ∧ ((0 ≤ i1) ∧ ((i1 ≤ (↑(List.length l) : Int)) ∧ (l2 = (List.map Sp.encB' (List.take (Int.toNat i1) l))))))) → (ifB (decide (i1 < i)) (((0 ≤ i1) ∧ (i1 < (↑(List.length l1) : Int))) ∧ (∀ x : Tm, (((Sp.wrd (Blk.label (nth (Inhabited.default) l1 i1))) = x) → (((List.length (Blk.cmds (nth (Inhabited.default) l1 i1))) < 9223372036854775808) → ((((↑(List.length (Blk.cmds (nth (Inhabited.default) l1 i1))) : Int) = (↑(List.length (Blk.cmds (nth (Inhabited.default) l1 i1))) : Int)) ∧ (((List.length (Blk.cmds (nth (Inhabited.default) l1 i1))) ≤ 30) ∧ ((∀ x1 : Cmd, ((Membership.mem (Blk.cmds (nth (Inhabited.default) l1 i1)) x1) → ((0 ≤ (Cmd.kind x1)) ∧ ((Cmd.kind x1) ≤ 5)))) ∧ (((0 : Int) ≤ 0) ∧ ((0 ≤ (↑(List.length (Blk.cmds (nth (Inhabited.default) l1 i1))) : Int)) ∧ (Exists (fun s : ByteArray => ((x :: ([] : (List Tm))) = ((Sp.wrd s) :: (List.map Sp.encC' (List.take (Int.toNat 0) (Blk.cmds (nth (Inhabited.default) l1 i1))))))))))))) ∧ (special_encode.l2 ∧ (∀ l3 : (List Tm), (∀ i2 : Int, ((((LOut.brk (((List.take 1 (x :: ([] : (List Tm)))) ++ (List.map Sp.encC' (Blk.cmds (nth (Inhabited.default) l1 i1)))), (↑(List.length (Blk.cmds (nth (Inhabited.default) l1 i1))) : Int))) : (LOut ((List Tm) × Int) (List Tm))) = (LOut.brk (l3, i2))) → (∀ x1 : Tm, (((Tm.mk 4 (⟨#[]⟩ : ByteArray) l3) = x1) → ((((List.length l2) + (List.length (x1 :: ([] : (List Tm))))) ≤ 8589934592) ∧ ((inR Go.IntKind.i64 (i1 + 1)) ∧ (((l1 = l) ∧ ((i = (↑(List.length l) : Int)) ∧ ((0 ≤ (i1 + 1)) ∧ (((i1 + 1) ≤ (↑(List.length l) : Int)) ∧ ((l2 ++ (x1 :: ([] : (List Tm)))) = (List.map Sp.encB' (List.take (Int.toNat (i1 + 1)) l))))))) ∧ (((Int.toNat ((↑(List.length l) : Int) - (i1 + 1))) < (Int.toNat ((↑(List.length l) : Int) - i1))) ∧ (((LOut.brk ((List.map Sp.encB' l), (↑(List.length l) : Int))) : (LOut ((List Tm) × Int) (List Tm))) = (LOut.brk ((List.map Sp.encB' l), (↑(List.length l) : Int))))))))))))))))))) (((LOut.brk ((List.map Sp.encB' l), (↑(List.length l) : Int))) : (LOut ((List Tm) × Int) (List Tm))) = (LOut.brk (l2, i1)))))))))
def special_encode.t (l : (List Blk)) : Prop :=
  (((List.length l) < 9223372036854775808) → (((l = l) ∧ (((↑(List.length l) : Int) = (↑(List.length l) : Int)) ∧ (((0 : Int) ≤ 0) ∧ ((0 ≤ (↑(List.length l) : Int)) ∧ (([] : (List Tm)) = (List.map Sp.encB' (List.take (Int.toNat 0) l))))))) ∧ ((special_encode.l0 l) ∧ (∀ l1 : (List Tm), (∀ i : Int, ((((LOut.brk ((List.map Sp.encB' l), (↑(List.length l) : Int))) : (LOut ((List Tm) × Int) (List Tm))) = (LOut.brk (l1, i))) → ((List.map Sp.encB' l) = l1)))))))
theorem special_encode.w (l : (List Blk)) : wpF Go.Proofs.Try.prog (lookC [(33, special_word.C), (68, special_uses.C), (70, special_encode_1.C)]) 42 [.lst (.nm 2)] [.lst (.nm 0)] (special_encode.Λ l) (fun _ => none) l (fun r => (l.map Sp.encB') = r) = special_encode.t l := by kernel_rfl
def special_Encode.t (l : (List Blk)) : Prop :=
  ((∀ x : Blk, ((Membership.mem l x) → (∀ x1 : Cmd, ((Membership.mem (Blk.cmds x) x1) → (Sp.okL ((Cmd.sym x1) :: ([] : (List Tm)))))))) ∧ (∀ i : Int, (((Sp.check l) = i) → (ifB (!(decide (i = 0))) ((ite ((Sp.check l) = 0) ((Sp.encP l), 0) (([] : (List Tm)), (Sp.check l))) = (([] : (List Tm)), i)) (((∀ x : Blk, ((Membership.mem l x) → (((List.length (Blk.cmds x)) ≤ 30) ∧ (∀ x1 : Cmd, ((Membership.mem (Blk.cmds x) x1) → ((0 ≤ (Cmd.kind x1)) ∧ ((Cmd.kind x1) ≤ 5))))))) ∧ ((List.length l) ≤ 30)) ∧ (∀ l1 : (List Tm), (((List.map Sp.encB' l) = l1) → ((ite ((Sp.check l) = 0) ((Sp.encP l), 0) (([] : (List Tm)), (Sp.check l))) = (l1, 0)))))))))
theorem special_Encode.w (l : (List Blk)) : wpF Go.Proofs.Try.prog (lookC [(15, special_Check.C), (42, special_encode.C)]) 17 [.lst (.nm 2)] [.lst (.nm 0), .int .i64] (fun _ => none) (fun _ => none) l (fun r => ((if Sp.check l = 0 then (Sp.encP l, 0) else ([], Sp.check l))) = r) = special_Encode.t l := by kernel_rfl
def special_call.t (l : (List Blk)) (inp : (List Tm)) : Prop :=
  (((∀ x : Blk, ((Membership.mem l x) → (((List.length (Blk.cmds x)) ≤ 30) ∧ (∀ x1 : Cmd, ((Membership.mem (Blk.cmds x) x1) → ((0 ≤ (Cmd.kind x1)) ∧ ((Cmd.kind x1) ≤ 5))))))) ∧ ((List.length l) ≤ 30)) ∧ ((((0 : Int) ≤ 0) ∧ (0 < (↑(List.length l) : Int))) ∧ ((Sp.okL inp) ∧ ((((List.length ((Tm.mk 4 (⟨#[]⟩ : ByteArray) (List.map Sp.encB' l)) :: ((Sp.wrd (Blk.label (nth (Inhabited.default) l 0))) :: ([] : (List Tm))))) + (List.length inp)) ≤ 8589934592) ∧ ((Sp.okL ((Tm.mk 8 (⟨#[73, 110, 116]⟩ : ByteArray) ((Tm.mk 4 (⟨#[]⟩ : ByteArray) (List.map Sp.encB' l)) :: ((Sp.wrd (Blk.label (nth (Inhabited.default) l 0))) :: inp))) :: ([] : (List Tm)))) ∧ (∀ i : Int, (∀ i1 : Int, ((((↑(Sp.nodesL ((Tm.mk 8 (⟨#[73, 110, 116]⟩ : ByteArray) ((Tm.mk 4 (⟨#[]⟩ : ByteArray) (List.map Sp.encB' l)) :: ((Sp.wrd (Blk.label (nth (Inhabited.default) l 0))) :: inp))) :: ([] : (List Tm)))) : Int), (↑(Sp.depthL ((Tm.mk 8 (⟨#[73, 110, 116]⟩ : ByteArray) ((Tm.mk 4 (⟨#[]⟩ : ByteArray) (List.map Sp.encB' l)) :: ((Sp.wrd (Blk.label (nth (Inhabited.default) l 0))) :: inp))) :: ([] : (List Tm)))) : Int)) = (i, i1)) → (ifB (decide (4000 < i)) ((Sp.callP l inp) = (([] : (List Tm)), 7)) (ifB (decide (100 < i1)) ((Sp.callP l inp) = (([] : (List Tm)), 6)) ((Sp.callP l inp) = (((Tm.mk 8 (⟨#[73, 110, 116]⟩ : ByteArray) ((Tm.mk 4 (⟨#[]⟩ : ByteArray) (List.map Sp.encB' l)) :: ((Sp.wrd (Blk.label (nth (Inhabited.default) l 0))) :: inp))) :: ([] : (List Tm))), 0))))))))))))
theorem special_call.w (l : (List Blk)) (inp : (List Tm)) : wpF Go.Proofs.Try.prog (lookC [(27, term_Size.C), (33, special_word.C), (42, special_encode.C), (51, term_Copy.C)]) 45 [.lst (.nm 2), .lst (.nm 0)] [.lst (.nm 0), .int .i64] (fun _ => none) (fun _ => none) (l, inp) (fun r => (Sp.callP l inp) = r) = special_call.t l inp := by kernel_rfl
def special_Interpret.t (l : (List Blk)) (inp : (List Tm)) : Prop :=
  ((∀ x : Blk, ((Membership.mem l x) → (∀ x1 : Cmd, ((Membership.mem (Blk.cmds x) x1) → (Sp.okL ((Cmd.sym x1) :: ([] : (List Tm)))))))) ∧ (∀ i : Int, (((Sp.check l) = i) → (ifB (!(decide (i = 0))) ((ite ((Sp.check l) ≠ 0) (([] : (List Tm)), (Sp.check l)) (ite ((Sp.wrong inp 4) ≠ 0) (([] : (List Tm)), (Sp.wrong inp 4)) (Sp.callP l inp))) = (([] : (List Tm)), i)) ((Sp.okL inp) ∧ (∀ i1 : Int, (((Sp.wrong inp 4) = i1) → (ifB (!(decide (i1 = 0))) ((ite ((Sp.check l) ≠ 0) (([] : (List Tm)), (Sp.check l)) (ite ((Sp.wrong inp 4) ≠ 0) (([] : (List Tm)), (Sp.wrong inp 4)) (Sp.callP l inp))) = (([] : (List Tm)), i1)) ((((Sp.check l) = 0) ∧ ((Sp.nodesL inp) ≤ 4000)) ∧ (∀ l1 : (List Tm), (∀ i2 : Int, (((Sp.callP l inp) = (l1, i2)) → ((ite ((Sp.check l) ≠ 0) (([] : (List Tm)), (Sp.check l)) (ite ((Sp.wrong inp 4) ≠ 0) (([] : (List Tm)), (Sp.wrong inp 4)) (Sp.callP l inp))) = (l1, i2))))))))))))))
theorem special_Interpret.w (l : (List Blk)) (inp : (List Tm)) : wpF Go.Proofs.Try.prog (lookC [(15, special_Check.C), (28, term_Value.C), (45, special_call.C)]) 19 [.lst (.nm 2), .lst (.nm 0)] [.lst (.nm 0), .int .i64] (fun _ => none) (fun _ => none) (l, inp) (fun r => ((if Sp.check l ≠ 0 then ([], Sp.check l) else if Sp.wrong inp 4 ≠ 0 then ([], Sp.wrong inp 4) else Sp.callP l inp)) = r) = special_Interpret.t l inp := by kernel_rfl
def special_Config.t (l : (List Blk)) : Prop :=
  ((∀ x : Blk, ((Membership.mem l x) → (∀ x1 : Cmd, ((Membership.mem (Blk.cmds x) x1) → (Sp.okL ((Cmd.sym x1) :: ([] : (List Tm)))))))) ∧ (∀ i : Int, (((Sp.check l) = i) → (ifB (!(decide (i = 0))) ((ite ((Sp.check l) ≠ 0) ((Cfg.mk ([] : (List Tm)) ([] : (List Unq))), (Sp.check l)) ((Cfg.mk (Prod.fst (Sp.callP l Sp.inpW)) ([] : (List Unq))), (Prod.snd (Sp.callP l Sp.inpW)))) = ((Cfg.mk ([] : (List Tm)) ([] : (List Unq))), i)) ((((Sp.check l) = 0) ∧ ((Sp.nodesL ((Tm.mk 7 (⟨#[105, 110, 112, 117, 116]⟩ : ByteArray) ([] : (List Tm))) :: ([] : (List Tm)))) ≤ 4000)) ∧ (∀ l1 : (List Tm), (∀ i1 : Int, (((Sp.callP l ((Tm.mk 7 (⟨#[105, 110, 112, 117, 116]⟩ : ByteArray) ([] : (List Tm))) :: ([] : (List Tm)))) = (l1, i1)) → ((ite ((Sp.check l) ≠ 0) ((Cfg.mk ([] : (List Tm)) ([] : (List Unq))), (Sp.check l)) ((Cfg.mk (Prod.fst (Sp.callP l Sp.inpW)) ([] : (List Unq))), (Prod.snd (Sp.callP l Sp.inpW)))) = ((Cfg.mk l1 ([] : (List Unq))), i1))))))))))
theorem special_Config.w (l : (List Blk)) : wpF Go.Proofs.Try.prog (lookC [(15, special_Check.C), (45, special_call.C)]) 21 [.lst (.nm 2)] [.nm 5, .int .i64] (fun _ => none) (fun _ => none) l (fun r => ((if Sp.check l ≠ 0 then ((Cfg.mk [] []), Sp.check l) else (Cfg.mk (Sp.callP l Sp.inpW).1 [], (Sp.callP l Sp.inpW).2))) = r) = special_Config.t l := by kernel_rfl
end Go.AL

namespace Go.AL
set_option linter.unusedVariables false
set_option linter.unusedSimpArgs false
set_option maxRecDepth 10000
attribute [local irreducible] wpF wpFX wpM
theorem r32_Source.ok (W : World) : CtrOK Go.Proofs.Try.prog W 10 r32_Source.C := by
  refine funOK (Γ := lookC []) (lookC_ok (fun p hp => by cases hp)) (Λ := fun _ _ => none) (Λr := fun _ _ => none) fun a ha => ?_
  have e : wpF Go.Proofs.Try.prog (lookC []) 10 [] [.str] (fun _ => none) (fun _ => none) a (fun r => Sp.srcT = r) = (Sp.srcT = Sp.srcT) := by kernel_rfl
  exact e.mpr rfl
theorem special_Source.ok (W : World) : CtrOK Go.Proofs.Try.prog W 9 special_Source.C := by
  refine funOK (Γ := lookC []) (lookC_ok (fun p hp => by cases hp)) (Λ := fun _ _ => none) (Λr := fun _ _ => none) fun a ha => ?_
  have e : wpF Go.Proofs.Try.prog (lookC []) 9 [] [.str] (fun _ => none) (fun _ => none) a (fun r => Sp.srcT = r) = (Sp.srcT = Sp.srcT) := by kernel_rfl
  exact e.mpr rfl
theorem Sp.find_mem : ∀ {l : List Blk} {s : ByteArray}, 0 ≤ Sp.find l s → ∃ b ∈ l, b.label = s
  | [], s, h => by simp [Sp.find] at h
  | b :: l, s, h => by
    rw [Sp.find] at h
    by_cases h1 : b.label = s
    · exact ⟨b, by simp, h1⟩
    · rw [if_neg h1] at h
      by_cases h2 : Sp.find l s = -1
      · rw [if_pos h2] at h; omega
      · have := Sp.find_in l s
        obtain ⟨b', h3, h4⟩ := Sp.find_mem (l := l) (s := s) (by omega)
        exact ⟨b', by simp [h3], h4⟩
theorem Sp.wrd_nonempty {s : ByteArray} (h : Sp.wrong [Sp.wrd s] 4 = 0) : s ≠ ByteArray.empty := by
  rintro rfl
  obtain ⟨_, _, h3⟩ := Sp.wrong_ok h
  simp [Sp.formL, Sp.formT, Sp.wrd, Sp.right, Sp.word, Tm.kind, Tm.kids, Tm.text] at h3
theorem Sp.sym_kids {t : Tm} (h1 : Sp.sym t = true) (h2 : Sp.wrong [t] 4 = 0) : t = .mk t.kind t.text [] := by
  obtain ⟨_, _, h3⟩ := Sp.wrong_ok h2
  simp only [Sp.formL, Sp.formT_eq, Bool.and_eq_true] at h3
  have h4 := h3.1.1.1
  unfold Sp.right at h4
  have hk : ¬ (t.kind ≠ 4 ∧ t.kind ≠ 8 ∧ 0 < t.kids.length) := by
    intro h; rw [if_pos h] at h4; cases h4
  unfold Sp.sym at h1
  simp only [Bool.and_eq_true, Bool.or_eq_true, Bool.not_eq_true', Bool.or_eq_false_iff, Bool.and_eq_false_iff, Bool.not_eq_false', decide_eq_true_eq, decide_eq_false_iff_not, mk_empty] at h1
  have : t.kids = [] := List.length_eq_zero_iff.mp (by omega)
  conv => lhs; rw [← Tm.eta t]
  rw [this]
theorem Sp.enc_eq {l : List Blk} (h : Sp.check l = 0) : l.map Sp.encB' = Sp.encP l := by
  obtain ⟨_, _, hb⟩ := Sp.check_ok h
  unfold Sp.encP
  refine List.map_congr_left fun b hbm => ?_
  obtain ⟨_, _, hc⟩ := hb b hbm
  unfold Sp.encB' Sp.encB
  congr 2
  refine List.map_congr_left fun c hcm => ?_
  obtain ⟨g1, g2, g3, g4, g5⟩ := Sp.cmdErr_ok (hc c hcm)
  unfold Sp.encC' Sp.encC
  congr 1
  congr 1
  · congr 1
    by_cases h1 : c.kind = 1 ∨ c.kind = 3
    · rw [if_pos h1, if_pos h1, ← Sp.sym_kids (g2 h1).1 (g2 h1).2]
    · rw [if_neg h1, if_neg h1]
  · by_cases h1 : c.kind = 2 ∨ c.kind = 3 ∨ c.kind = 4
    · rw [if_pos h1]
      obtain ⟨b', hb1, hb2⟩ := Sp.find_mem (g5 h1)
      have := Sp.wrd_nonempty (hb b' hb1).2.1
      rw [hb2] at this
      rw [if_neg this]
    · rw [if_neg h1, if_pos (g4 h1)]
theorem nthLet {k : Int} (h : 0 ≤ k ∧ k < 6) : nth (⟨#[]⟩ : ByteArray) ((⟨#[]⟩ : ByteArray) :: ((⟨#[79]⟩ : ByteArray) :: ((⟨#[82]⟩ : ByteArray) :: ((⟨#[69]⟩ : ByteArray) :: ((⟨#[71]⟩ : ByteArray) :: ((⟨#[72]⟩ : ByteArray) :: ([] : (List ByteArray)))))))) k = nth default Sp.letters k := by
  have : k = 0 ∨ k = 1 ∨ k = 2 ∨ k = 3 ∨ k = 4 ∨ k = 5 := by omega
  rcases this with rfl | rfl | rfl | rfl | rfl | rfl <;> rfl
theorem special_encode_1.main (l : List Tm) : special_encode_1.t l := rfl
theorem special_encode_1.ok (W : World) : CtrOK Go.Proofs.Try.prog W 70 special_encode_1.C := by
  refine funOK (Γ := lookC []) (lookC_ok (fun p hp => by cases hp)) (Λ := fun a_ => match a_ with | l => (fun _ => none)) (Λr := fun a_ => match a_ with | l => (fun _ => none)) ?_
  intro a ha
  refine Eq.mpr ?_ (@special_encode_1.main a)
  kernel_rfl
theorem special_encode.l2_ok : special_encode.l2 := by
  rintro cs n kids k ⟨e1, h1, h2, h3, h4, s, e2⟩
  subst n kids
  refine ifD (fun h => ?_) fun h => ?_
  · have hk : k.toNat < cs.length := by omega
    have hkd := h2 _ (nth_mem (d := default) hk)
    have et := take_nth (d := default) hk
    have ec : Sp.encC' (nth default cs k) = .mk 4 ⟨#[]⟩ (([Sp.wrd (nth default Sp.letters (nth default cs k).kind)] ++ if (nth default cs k).kind = 1 ∨ (nth default cs k).kind = 3 then [.mk (nth default cs k).sym.kind (nth default cs k).sym.text []] else []) ++ if (nth default cs k).kind = 2 ∨ (nth default cs k).kind = 3 ∨ (nth default cs k).kind = 4 then [Sp.wrd (nth default cs k).label] else []) := rfl
    generalize nth default cs k = c at *
    have e5 : (k + 1).toNat = k.toNat + 1 := by omega
    have len : ∀ x : Tm, (Sp.wrd s :: List.map Sp.encC' (List.take k.toNat cs)).length + [x].length ≤ 8589934592 := by
      intro x; simp only [List.length_cons, List.length_map, List.length_take, List.length_nil]; omega
    have fin : ∀ x : Tm, Sp.encC' c = x → ((Sp.wrd s :: List.map Sp.encC' (List.take k.toNat cs)).length + [x].length ≤ 8589934592) ∧ inR .i64 (k + 1) ∧ (((cs.length : Int) = (cs.length : Int)) ∧ cs.length ≤ 30 ∧ (∀ c ∈ cs, 0 ≤ c.kind ∧ c.kind ≤ 5) ∧ 0 ≤ k + 1 ∧ k + 1 ≤ (cs.length : Int) ∧
        ∃ s' : ByteArray, (Sp.wrd s :: List.map Sp.encC' (List.take k.toNat cs)) ++ [x] = Sp.wrd s' :: List.map Sp.encC' (List.take (k + 1).toNat cs)) ∧ ((cs.length : Int) - (k + 1)).toNat < ((cs.length : Int) - k).toNat ∧
        ((LOut.brk (List.take 1 ((Sp.wrd s :: List.map Sp.encC' (List.take k.toNat cs)) ++ [x]) ++ List.map Sp.encC' cs, (cs.length : Int)) : LOut (List Tm × Int) (List Tm)) = LOut.brk (List.take 1 (Sp.wrd s :: List.map Sp.encC' (List.take k.toNat cs)) ++ List.map Sp.encC' cs, (cs.length : Int))) := by
      intro x hx
      refine ⟨len x, inR64 (by omega), ⟨rfl, h1, h2, by omega, by omega, s, ?_⟩, by omega, ?_⟩
      · rw [e5, et, List.map_append, ← hx]; rfl
      · simp
    refine ⟨by omega, by omega, ?_⟩
    rw [nthLet (by omega), nthSym (by omega), nthLab (by omega)]
    rintro x1 hx1
    refine ifD (fun q1 => ?_) fun q1 => ifD (fun q2 => ?_) fun q2 => ?_
    · refine ifD (fun q2 => ?_) fun q2 => ?_
      · rintro x2 hx2 x3 hx3
        exact fin x3 (by rw [ec, if_pos q1, if_pos q2, ← hx3, ← hx1, ← hx2]; rfl)
      · rintro x3 hx3
        exact fin x3 (by rw [ec, if_pos q1, if_neg q2, ← hx3, ← hx1]; rfl)
    · rintro x2 hx2 x3 hx3
      exact fin x3 (by rw [ec, if_neg q1, if_pos q2, ← hx3, ← hx1, ← hx2]; rfl)
    · rintro x3 hx3
      exact fin x3 (by rw [ec, if_neg q1, if_neg q2, ← hx3, ← hx1]; rfl)
  · have : k = cs.length := by omega
    subst this
    rw [List.take_of_length_le (l := cs) (by omega)]
    simp
theorem special_encode.l0_ok (l : List Blk) (ha : (∀ b ∈ l, b.cmds.length ≤ 30 ∧ ∀ c ∈ b.cmds, 0 ≤ c.kind ∧ c.kind ≤ 5) ∧ l.length ≤ 30) : special_encode.l0 l := by
  rintro l1 n out i ⟨e, e', h1, h2, e3⟩
  subst l1 n out
  refine ifD (fun h => ?_) fun h => ?_
  · have hi : i.toNat < l.length := by omega
    have e1 : (i + 1).toNat = i.toNat + 1 := by omega
    have hb := ha.1 _ (nth_mem (d := default) hi)
    refine ⟨by omega, fun x hx hl => ⟨⟨rfl, hb.1, hb.2, by omega, by omega, (nth default l i).label, by rw [← hx]; rfl⟩, special_encode.l2_ok, fun kids k hk x1 hx1 => ?_⟩⟩
    simp only [LOut.brk.injEq, Prod.mk.injEq] at hk
    obtain ⟨rfl, rfl⟩ := hk
    refine ⟨?_, inR64 (by omega), ⟨by trivial, by trivial, by omega, by omega, ?_⟩, by omega, by trivial⟩
    · simp only [List.length_map, List.length_take, List.length_cons, List.length_nil]; omega
    · rw [e1, take_nth (d := default) hi, List.map_append, ← hx1, ← hx]; rfl
  · rw [List.take_of_length_le (by omega)]; congr 2; omega
theorem special_encode.main (l : List Blk) (ha : (∀ b ∈ l, b.cmds.length ≤ 30 ∧ ∀ c ∈ b.cmds, 0 ≤ c.kind ∧ c.kind ≤ 5) ∧ l.length ≤ 30) : special_encode.t l := by
  refine fun h => ⟨⟨rfl, rfl, by omega, by omega, by simp⟩, special_encode.l0_ok l ha, fun l1 i h => ?_⟩
  simp only [LOut.brk.injEq, Prod.mk.injEq] at h
  exact h.1
theorem special_encode.ok (W : World) : CtrOK Go.Proofs.Try.prog W 42 special_encode.C := by
  refine funOK (Γ := lookC [(33, special_word.C), (68, special_uses.C), (70, special_encode_1.C)]) (lookC_ok (fun p hp => by
    simp only [List.mem_cons, List.not_mem_nil, or_false] at hp
    rcases hp with rfl | rfl | rfl
    · exact special_word.ok W
    · exact special_uses.ok W
    · exact special_encode_1.ok W)) (Λ := fun a_ => match a_ with | l => (special_encode.Λ l)) (Λr := fun a_ => match a_ with | l => (fun _ => none)) ?_
  intro a ha
  refine Eq.mpr ?_ (@special_encode.main a ha)
  kernel_rfl
theorem special_Encode.main (l : List Blk) (ha : ∀ b ∈ l, ∀ c ∈ b.cmds, Sp.okL [c.sym]) : special_Encode.t l := by
  refine ⟨ha, fun e he => ?_⟩
  rw [he]
  refine ifN (fun h => by rw [if_neg h]) fun h => ?_
  rw [if_pos h]
  rw [h] at he
  refine ⟨Sp.check_enc he, fun x hx => ?_⟩
  rw [Sp.enc_eq he] at hx
  rw [hx]
theorem special_Encode.ok (W : World) : CtrOK Go.Proofs.Try.prog W 17 special_Encode.C := by
  refine funOK (Γ := lookC [(15, special_Check.C), (42, special_encode.C)]) (lookC_ok (fun p hp => by
    simp only [List.mem_cons, List.not_mem_nil, or_false] at hp
    rcases hp with rfl | rfl
    · exact special_Check.ok W
    · exact special_encode.ok W)) (Λ := fun a_ => match a_ with | l => (fun _ => none)) (Λr := fun a_ => match a_ with | l => (fun _ => none)) ?_
  intro a ha
  refine Eq.mpr ?_ (@special_Encode.main a ha)
  kernel_rfl
theorem special_call.main (l : List Blk) (inp : List Tm) (ha : Sp.check l = 0 ∧ Sp.nodesL inp ≤ 4000) : special_call.t l inp := by
  obtain ⟨h1, h2, h3⟩ := Sp.check_ok ha.1
  have hn := Sp.encP_nodes ha.1
  have hl := Sp.nodesL_len inp
  unfold special_call.t
  rw [Sp.enc_eq ha.1]
  refine ⟨Sp.check_enc ha.1, by omega, by unfold Sp.okL; omega, by simp only [List.length_cons, List.length_nil]; omega, ?_, ?_⟩
  · simp only [Sp.okL, Sp.nodesL, Sp.nodesT, Sp.wrd]; omega
  · intro n d hnd
    simp only [Prod.mk.injEq] at hnd
    obtain ⟨h4, h5⟩ := hnd
    have e : Sp.callP l inp = if 4000 < Sp.nodesL [Tm.mk 8 Sp.intW ([.mk 4 ⟨#[]⟩ (Sp.encP l), Sp.wrd (nth default l 0).label] ++ inp)] then ([], 7) else if 100 < Sp.depthL [Tm.mk 8 Sp.intW ([.mk 4 ⟨#[]⟩ (Sp.encP l), Sp.wrd (nth default l 0).label] ++ inp)] then ([], 6) else ([Tm.mk 8 Sp.intW ([.mk 4 ⟨#[]⟩ (Sp.encP l), Sp.wrd (nth default l 0).label] ++ inp)], 0) := rfl
    rw [e]
    have h4' : (Sp.nodesL [Tm.mk 8 Sp.intW ([.mk 4 ⟨#[]⟩ (Sp.encP l), Sp.wrd (nth default l 0).label] ++ inp)] : Int) = n := h4
    have h5' : (Sp.depthL [Tm.mk 8 Sp.intW ([.mk 4 ⟨#[]⟩ (Sp.encP l), Sp.wrd (nth default l 0).label] ++ inp)] : Int) = d := h5
    generalize Sp.nodesL [Tm.mk 8 Sp.intW ([.mk 4 ⟨#[]⟩ (Sp.encP l), Sp.wrd (nth default l 0).label] ++ inp)] = N at *
    generalize Sp.depthL [Tm.mk 8 Sp.intW ([.mk 4 ⟨#[]⟩ (Sp.encP l), Sp.wrd (nth default l 0).label] ++ inp)] = D at *
    refine ifD (fun h => by rw [if_pos (by omega)]) fun h => ?_
    rw [if_neg (c := 4000 < N) (by omega)]
    exact ifD (fun h => by rw [if_pos (by omega)]) fun h => by rw [if_neg (by omega)]; rfl
theorem special_call.ok (W : World) : CtrOK Go.Proofs.Try.prog W 45 special_call.C := by
  refine funOK (Γ := lookC [(27, term_Size.C), (33, special_word.C), (42, special_encode.C), (51, term_Copy.C)]) (lookC_ok (fun p hp => by
    simp only [List.mem_cons, List.not_mem_nil, or_false] at hp
    rcases hp with rfl | rfl | rfl | rfl
    · exact term_Size.ok W
    · exact special_word.ok W
    · exact special_encode.ok W
    · exact term_Copy.ok W)) (Λ := fun a_ => match a_ with | (l, inp) => (fun _ => none)) (Λr := fun a_ => match a_ with | (l, inp) => (fun _ => none)) ?_
  intro a ha
  obtain ⟨l, inp⟩ := a
  refine Eq.mpr ?_ (@special_call.main l inp ha)
  kernel_rfl
theorem special_Interpret.main (l : List Blk) (inp : List Tm) (ha : (∀ b ∈ l, ∀ c ∈ b.cmds, Sp.okL [c.sym]) ∧ Sp.okL inp) : special_Interpret.t l inp := by
  refine ⟨ha.1, fun e he => ?_⟩
  rw [he]
  refine ifN (fun h => by rw [if_pos h]) fun h => ⟨ha.2, fun w hw => ?_⟩
  rw [if_neg (fun hh => hh h), hw]
  refine ifN (fun h1 => by rw [if_pos h1]) fun h1 => ?_
  rw [if_neg (fun hh => hh h1)]
  rw [h1] at hw
  exact ⟨⟨h, (Sp.wrong_ok hw).1⟩, fun a b hab => hab⟩
theorem special_Interpret.ok (W : World) : CtrOK Go.Proofs.Try.prog W 19 special_Interpret.C := by
  refine funOK (Γ := lookC [(15, special_Check.C), (28, term_Value.C), (45, special_call.C)]) (lookC_ok (fun p hp => by
    simp only [List.mem_cons, List.not_mem_nil, or_false] at hp
    rcases hp with rfl | rfl | rfl
    · exact special_Check.ok W
    · exact term_Value.ok W
    · exact special_call.ok W)) (Λ := fun a_ => match a_ with | (l, inp) => (fun _ => none)) (Λr := fun a_ => match a_ with | (l, inp) => (fun _ => none)) ?_
  intro a ha
  obtain ⟨l, inp⟩ := a
  refine Eq.mpr ?_ (@special_Interpret.main l inp ha)
  kernel_rfl
theorem special_Config.main (l : List Blk) (ha : ∀ b ∈ l, ∀ c ∈ b.cmds, Sp.okL [c.sym]) : special_Config.t l := by
  refine ⟨ha, fun e he => ?_⟩
  rw [he]
  refine ifN (fun h => by rw [if_pos h]) fun h => ?_
  rw [if_neg (fun hh => hh h)]
  refine ⟨⟨h, by simp [Sp.nodesL, Sp.nodesT]⟩, fun a b hab => ?_⟩
  have : Sp.callP l Sp.inpW = (a, b) := hab
  rw [this]
theorem special_Config.ok (W : World) : CtrOK Go.Proofs.Try.prog W 21 special_Config.C := by
  refine funOK (Γ := lookC [(15, special_Check.C), (45, special_call.C)]) (lookC_ok (fun p hp => by
    simp only [List.mem_cons, List.not_mem_nil, or_false] at hp
    rcases hp with rfl | rfl
    · exact special_Check.ok W
    · exact special_call.ok W)) (Λ := fun a_ => match a_ with | l => (fun _ => none)) (Λr := fun a_ => match a_ with | l => (fun _ => none)) ?_
  intro a ha
  refine Eq.mpr ?_ (@special_Config.main a ha)
  kernel_rfl
end Go.AL
