/-
  NARROWER THAN 'FOR EVERY INPUT', by the rows' own cells (each row's printed sentence says how): SpecialRuns: loops · EqualValues: loops · EqualLists: loops.
  DERIVED. THE GIVEN ROWS OF THIS SEAT. 3 by the template 'for every input the law returns true; each argument reads behind the call as it read before'; 0 by the template 'total and deterministic' (their statements: YtiolpppbnbboiaaTotals.lean).
  GIVEN WITH THE SEED: the statements are not yours to turn. If you find one false, say at which input.
  Laid BY PROGRAM, IN A SANDBOX (cutbox-rows.mjs): the forced cells as the released guide's own fill.sh prints them over the translation 4097caee17051d1a… (all of the seat's roots in one cut). By AI agents, Wed Nov 11 2026. No macro, syntax, notation, axiom, sorry.
-/
import Derived.Test.YtiolpppbnbboiaaChecked
import GoSem.Claim
import GoSem.ClaimJoined
import GoSem.ClaimMapViews
import Derived.JoinedTies
import Derived.KernelRfl
namespace Go.Proofs.Ytiolpppbnbboiaa
/- THE CELL 'sum', in the pinned program and in every row, IS THE sha256 OF THE DUMP (.gsa) THAT YtiolpppbnbboiaaProg.lean LOADS. Nothing in Lean hashes anything: it is a label: what it is worth is what the hold of that sum in a sandbox is worth. -/
noncomputable def Try.pinned : Pinned := { name := "ytiolpppbnbboiaa", sum := "4097caee17051d1aaa6c843ac0b78c86000f64609b1d37480b38d82535c1c6fc", checked := Try.checked }
namespace Rows
def none {H : Type} : Left H := { results := [], args := [] }

/-- 'chiasmuslaw32.SpecialRuns': WHATEVER THE INPUT: true; the input reads as it did. -/
def specialRunsSpec : ChangeSpec := { name := "specialRuns", fn := fun _ => fun
  | [d1, d2, d3] => { results := [.lit (.bool true)], args := [d1, d2, d3] }
  | _ => none }
def specialRunsRow : OpenClaim := { program := "ytiolpppbnbboiaa", sum := "4097caee17051d1aaa6c843ac0b78c86000f64609b1d37480b38d82535c1c6fc", func := "chiasmus/chiasmuslaw32.SpecialRuns", spec := "specialRuns", unfollowed := true, recurses := true, loops := true, apart := false }
def SpecialRunsSaid : Prop := specialRunsRow.holds Try.pinned (OpenSpec.ofChange specialRunsSpec)

/-- ITS FALSE NEIGHBOUR: 'it returns false'. Refute it at one input. -/
def specialRunsWrong : ChangeSpec := { name := "specialRuns", fn := fun _ => fun
  | [d1, d2, d3] => { results := [.lit (.bool false)], args := [d1, d2, d3] }
  | _ => none }
def SpecialRunsWrongFalsely : Prop := specialRunsRow.holds Try.pinned (OpenSpec.ofChange specialRunsWrong)

/-- 'chiasmuslaw35.EqualValues': WHATEVER THE INPUT: true; the input reads as it did. -/
def equalValuesSpec : ChangeSpec := { name := "equalValues", fn := fun _ => fun
  | [d1, d2, d3, d4] => { results := [.lit (.bool true)], args := [d1, d2, d3, d4] }
  | _ => none }
def equalValuesRow : OpenClaim := { program := "ytiolpppbnbboiaa", sum := "4097caee17051d1aaa6c843ac0b78c86000f64609b1d37480b38d82535c1c6fc", func := "chiasmus/chiasmuslaw35.EqualValues", spec := "equalValues", inPlace := ["internal/bytealg.IndexByteString", "internal/bytealg.IndexString"], unfollowed := true, recurses := true, named := ["internal/bytealg.MaxLen"], loops := true, apart := false }
def EqualValuesSaid : Prop := equalValuesRow.holds Try.pinned (OpenSpec.ofChange equalValuesSpec)

/-- ITS FALSE NEIGHBOUR: 'it returns false'. Refute it at one input. -/
def equalValuesWrong : ChangeSpec := { name := "equalValues", fn := fun _ => fun
  | [d1, d2, d3, d4] => { results := [.lit (.bool false)], args := [d1, d2, d3, d4] }
  | _ => none }
def EqualValuesWrongFalsely : Prop := equalValuesRow.holds Try.pinned (OpenSpec.ofChange equalValuesWrong)

/-- 'chiasmuslaw35.EqualLists': WHATEVER THE INPUT: true; the input reads as it did. -/
def equalListsSpec : ChangeSpec := { name := "equalLists", fn := fun _ => fun
  | [d1, d2, d3, d4] => { results := [.lit (.bool true)], args := [d1, d2, d3, d4] }
  | _ => none }
def equalListsRow : OpenClaim := { program := "ytiolpppbnbboiaa", sum := "4097caee17051d1aaa6c843ac0b78c86000f64609b1d37480b38d82535c1c6fc", func := "chiasmus/chiasmuslaw35.EqualLists", spec := "equalLists", inPlace := ["internal/bytealg.IndexByteString", "internal/bytealg.IndexString"], unfollowed := true, recurses := true, named := ["internal/bytealg.MaxLen"], loops := true, apart := false }
def EqualListsSaid : Prop := equalListsRow.holds Try.pinned (OpenSpec.ofChange equalListsSpec)

/-- ITS FALSE NEIGHBOUR: 'it returns false'. Refute it at one input. -/
def equalListsWrong : ChangeSpec := { name := "equalLists", fn := fun _ => fun
  | [d1, d2, d3, d4] => { results := [.lit (.bool false)], args := [d1, d2, d3, d4] }
  | _ => none }
def EqualListsWrongFalsely : Prop := equalListsRow.holds Try.pinned (OpenSpec.ofChange equalListsWrong)

/- THE SECOND FORM. 'bulk': how many values and letters a reading holds, each counted each time it is reached (what is shared counts as often as it is met; a slice's spare places count too). A statement '..UptoSaid' is the law's where the arguments, and the package variables that the reading takes, are together of bulk at most 1048576: NARROWER than '..Said'. Prove '..Said' where nothing that the law and all that it calls make is longer than what came in: it says more and counts as full. Else prove '..UptoSaid'. A law counts once. -/
mutual
def uptoBulk {H : Type} : DataW H → Nat
  | .lit (.string bytes) => bytes.length + 1
  | .lit _ => 1
  | .nil => 1
  | .ptr d => uptoBulk d + 1
  | .slice elems spare => uptoBulkAll elems + uptoBulkAll spare + 1
  | .agg parts => uptoBulkAll parts + 1
  | .iface _ d => uptoBulk d + 1
  | .map entries => uptoBulkEntries entries + 1
  | .held _ => 1
def uptoBulkAll {H : Type} : List (DataW H) → Nat
  | [] => 0
  | d :: r => uptoBulk d + uptoBulkAll r
def uptoBulkEntries {H : Type} : List (Lit × DataW H) → Nat
  | [] => 0
  | x :: r => uptoBulkEntry x + uptoBulkEntries r
def uptoBulkEntry {H : Type} : Lit × DataW H → Nat
  | (.string bytes, d) => bytes.length + uptoBulk d + 1
  | (_, d) => uptoBulk d + 1
 end
def uptoSmall : (H : Type) → List (DataW H) → Bool := fun _ ds => decide (uptoBulkAll ds ≤ 1048576)
def OpenSpec.upto (s : _root_.Go.ChangeSpec) : _root_.Go.OpenSpec := { _root_.Go.OpenSpec.ofChange s with cond := some uptoSmall }

/-- 'chiasmuslaw32.SpecialRuns', WHERE WHAT IT READS IS OF BULK AT MOST 1048576: true; the input reads as it did. -/
def specialRunsUptoRow : OpenClaim := { program := "ytiolpppbnbboiaa", sum := "4097caee17051d1aaa6c843ac0b78c86000f64609b1d37480b38d82535c1c6fc", func := "chiasmus/chiasmuslaw32.SpecialRuns", spec := "specialRuns", unfollowed := true, recurses := true, loops := true, apart := false, narrowed := true }
def SpecialRunsUptoSaid : Prop := specialRunsUptoRow.holds Try.pinned (OpenSpec.upto specialRunsSpec)

/-- 'chiasmuslaw35.EqualValues', WHERE WHAT IT READS IS OF BULK AT MOST 1048576: true; the input reads as it did. -/
def equalValuesUptoRow : OpenClaim := { program := "ytiolpppbnbboiaa", sum := "4097caee17051d1aaa6c843ac0b78c86000f64609b1d37480b38d82535c1c6fc", func := "chiasmus/chiasmuslaw35.EqualValues", spec := "equalValues", inPlace := ["internal/bytealg.IndexByteString", "internal/bytealg.IndexString"], unfollowed := true, recurses := true, named := ["internal/bytealg.MaxLen"], loops := true, apart := false, narrowed := true }
def EqualValuesUptoSaid : Prop := equalValuesUptoRow.holds Try.pinned (OpenSpec.upto equalValuesSpec)

/-- 'chiasmuslaw35.EqualLists', WHERE WHAT IT READS IS OF BULK AT MOST 1048576: true; the input reads as it did. -/
def equalListsUptoRow : OpenClaim := { program := "ytiolpppbnbboiaa", sum := "4097caee17051d1aaa6c843ac0b78c86000f64609b1d37480b38d82535c1c6fc", func := "chiasmus/chiasmuslaw35.EqualLists", spec := "equalLists", inPlace := ["internal/bytealg.IndexByteString", "internal/bytealg.IndexString"], unfollowed := true, recurses := true, named := ["internal/bytealg.MaxLen"], loops := true, apart := false, narrowed := true }
def EqualListsUptoSaid : Prop := equalListsUptoRow.holds Try.pinned (OpenSpec.upto equalListsSpec)

end Rows
end Go.Proofs.Ytiolpppbnbboiaa
