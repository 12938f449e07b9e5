/- Functions of the program: what they return, and that they do. -/
import Derived.Test.YtiolpppbnbboiaaChecked
import Derived.Lib.Strings
import Derived.Lib.Slices
import Derived.Lib.Walk
import Derived.Lib.Bytealg
import Derived.Test.YtiolpppbnbboiaaEvalC

set_option linter.unusedVariables false
set_option linter.unusedSimpArgs false
namespace Go.Proofs

set_option maxHeartbeats 1000000 in
set_option maxRecDepth 100000 in
theorem Try.stringslite_IndexByte (s : ByteArray) (c : Int) (w : World) :
    Calls Try.prog 109 #[.string s, .int .u8 c] w fun e w' => e = .returned (.int .i64 (Lib.indexByte s.data.toList c.toNat.toUInt8)) ∧ w' = w := by
  go_enter Try.func109, Try.ntmps109
  go_wp2
  rw [run_callFunc_extern Try.func117 (by kernel_rfl) (by kernel_rfl) (by kernel_rfl) (e := Extern.BytealgIndexByte.indexByte) (by kernel_rfl), Lib.run_indexByteString]
  simp only [Result.andThen]
  rw [Oper.upon_value]
  go_wp2
  go_ret
  exact ⟨rfl, rfl⟩

set_option maxHeartbeats 2000000 in
set_option maxRecDepth 100000 in
theorem Try.stringslite_Index_one (s : ByteArray) (c : UInt8) (w : World) :
    Calls Try.prog 102 #[.string s, .string ⟨#[c]⟩] w fun e w' => e = .returned (.int .i64 (Lib.indexByte s.data.toList c)) ∧ w' = w := by
  go_enter Try.func102, Try.ntmps102
  go_wp2_with (go_at_call 109; refine (Try.stringslite_IndexByte _ _ _).mono ?_; rintro e w' ⟨rfl, rfl⟩)
  · have h : ([c] == s.toList) = true := by assumption
    go_ret
    refine ⟨?_, rfl⟩
    have e : s.data.toList = [c] := by rw [← Lib.toList_data]; exact (beq_iff_eq.1 h).symm
    rw [e]
    simp [Lib.indexByte]
  · go_ret
    exact ⟨rfl, rfl⟩

set_option maxHeartbeats 1000000 in
theorem Try.strings_Index_one (s : ByteArray) (c : UInt8) (w : World) :
    Calls Try.prog 88 #[.string s, .string ⟨#[c]⟩] w fun e w' => e = .returned (.int .i64 (Lib.indexByte s.data.toList c)) ∧ w' = w := by
  go_enter Try.func88, Try.ntmps88
  go_wp2_with (go_at_call 102; refine (Try.stringslite_Index_one _ _ _).mono ?_; rintro e w' ⟨rfl, rfl⟩)
  go_ret
  exact ⟨rfl, rfl⟩
end Go.Proofs
namespace Sp
/-- Where a string of one byte is first found. -/
def index1 (s sub : ByteArray) : Int := Go.Lib.indexByte s.data.toList (sub.data.toList.headD 0)
end Sp
namespace Go.AL.SX
open Go.AL
def C : Ctr := pureCtr [.str, .str] [.int .i64] (some fun (a : ByteArray × ByteArray) => a.2.size = 1) fun (a : ByteArray × ByteArray) => Sp.index1 a.1 a.2
theorem ok (W : World) : CtrOK Go.Proofs.Try.prog W 88 C := by
  refine pureCtr_ok ?_
  intro a ha qs has σ
  obtain ⟨s, sub⟩ := a
  replace ha : sub.size = 1 := ha
  obtain ⟨c, rfl⟩ : ∃ c, sub = ⟨#[c]⟩ := by
    cases sub with
    | mk d => cases d with
      | mk l => match l, ha with
        | [c], _ => exact ⟨c, rfl⟩
  obtain rfl : qs = [.str s, .str ⟨#[c]⟩] := by
    match qs, has with
    | [x, y], has =>
      have h1 : [x.bare, y.bare] = [.str s, .str ⟨#[c]⟩] := has
      injection h1 with h1 h2
      injection h2 with h2 h3
      cases x <;> simp only [AV.bare, reduceCtorEq] at h1
      cases y <;> simp only [AV.bare, reduceCtorEq] at h2
      cases h1; cases h2; rfl
    | [], has => cases has
    | [_], has => injection has with _ h; cases h
    | _ :: _ :: _ :: _, has => injection has with _ h; injection h with _ h; cases h
  refine ⟨⟨_, Go.Proofs.Try.func88, by kernel_rfl, by kernel_rfl⟩, ?_⟩
  intro F vs w hr hI
  cases hr with
  | cons g1 hr => cases hr with
    | cons g2 hr =>
      cases hr; cases g1; cases g2
      refine (Go.Proofs.Try.strings_Index_one s c w).mono ?_
      rintro e w' ⟨rfl, rfl⟩
      exact ⟨_, rfl, F, _, σ, F.le_refl, .int _ _, hI, .inl rfl, σ.le_refl⟩
end Go.AL.SX
