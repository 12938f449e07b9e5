/- The row of EqualLists, from an abstract call. -/
import Derived.Test.YtiolpppbnbboiaaRows
import Derived.WalkKit
import Derived.ProofKit
import Derived.OpenShut
import Derived.JoinedCond
import Derived.ChangeOld
import Derived.Below
import Derived.Test.YtiolpppbnbboiaaCoreC

set_option linter.unusedVariables false
set_option linter.unusedSimpArgs false
namespace Go.Proofs.Ytiolpppbnbboiaa.el
open Go.ChangeShapes Go.WideShapes Go.ChangeAt Go.RowKit Go.AL
set_option linter.unusedVariables false

theorem own : ownKnob Try.prog.godebug = none := by kernel_rfl
theorem laidOut : laidOutB Try.prog = true := by kernel_rfl
def tys : List TypeId := [49, 9, 23, 67, 3, 5]
theorem tys_closed : closedTys Try.prog tys = true := by kernel_rfl
theorem tys_one : ∀ t ∈ tys, isSt Try.prog t = false → Try.prog.cellsOf t = 1 := by
  have : (tys.all fun t => isSt Try.prog t || Try.prog.cellsOf t == 1) = true := by kernel_rfl
  intro t ht h
  have := List.all_eq_true.1 this t ht
  rw [h] at this
  simpa using this

mutual
theorem bulk_eq {H : Type} : ∀ d : DataW H, Rows.uptoBulk d = AL.bulk d
  | .lit l => by cases l <;> simp [Rows.uptoBulk, AL.bulk]
  | .nil => by simp [Rows.uptoBulk, AL.bulk]
  | .ptr d => by simp [Rows.uptoBulk, AL.bulk, bulk_eq d]
  | .slice e s => by simp [Rows.uptoBulk, AL.bulk, bulkAll_eq e, bulkAll_eq s]
  | .agg ps => by simp [Rows.uptoBulk, AL.bulk, bulkAll_eq ps]
  | .iface _ d => by simp [Rows.uptoBulk, AL.bulk, bulk_eq d]
  | .map es => by simp [Rows.uptoBulk, AL.bulk, bulkEntries_eq es]
  | .held _ => by simp [Rows.uptoBulk, AL.bulk]
theorem bulkAll_eq {H : Type} : ∀ ds : List (DataW H), Rows.uptoBulkAll ds = AL.bulkAll ds
  | [] => by simp [Rows.uptoBulkAll, AL.bulkAll]
  | d :: ds => by simp [Rows.uptoBulkAll, AL.bulkAll, bulk_eq d, bulkAll_eq ds]
theorem bulkEntries_eq {H : Type} : ∀ ds : List (Lit × DataW H), Rows.uptoBulkEntries ds = AL.bulkEntries ds
  | [] => by simp [Rows.uptoBulkEntries, AL.bulkEntries]
  | d :: ds => by simp [Rows.uptoBulkEntries, AL.bulkEntries, bulkEntry_eq d, bulkEntries_eq ds]
theorem bulkEntry_eq {H : Type} : ∀ x : Lit × DataW H, Rows.uptoBulkEntry x = AL.bulkEntry x
  | (l, d) => by cases l <;> simp [Rows.uptoBulkEntry, AL.bulkEntry, bulk_eq d]
end

def Law : Prop := ∀ (W : World) (n0 n1 n2 n3 : Nat) (x0 x1 x2 x3 : List AV), Fits Try.prog n0 49 x0 → Fits Try.prog n1 23 x1 → Fits Try.prog n2 5 x2 → Fits Try.prog n3 5 x3 →
  (mkAV (isSt Try.prog 49) x0).wt + (mkAV (isSt Try.prog 23) x1).wt + (mkAV (isSt Try.prog 5) x2).wt + (mkAV (isSt Try.prog 5) x3).wt ≤ 1048576 →
  ACall Try.prog W 5 [mkAV (isSt Try.prog 49) x0, mkAV (isSt Try.prog 23) x1, mkAV (isSt Try.prog 5) x2, mkAV (isSt Try.prog 5) x3] (fun _ => none) fun v _ => v = .bool true

set_option maxRecDepth 100000 in
theorem contract (law : Law) (H : Type) (enc : TypeId × Value → H) (W : World) (base : Nat) (args : Array Value) (ds gs : List (DataW H)) (before : List MemPlace)
    (hval : ∀ (j : Nat) t v, Try.f5.params[j]? = some t → args[j]? = some v → Value.okWide Try.prog W .any base t v)
    (hW : DataW.Whole enc Try.prog Try.f5.params.toList Rows.equalListsSpec.vars false W args.toList ds gs before) (hk : Rows.uptoSmall H (ds ++ gs) = true) :
    Calls Try.prog 5 args W fun e W' => ∃ v, e = .returned v ∧ Rows.equalListsSpec.post enc Try.prog Try.f5 false true false false W args v W' := by
  have hW' := hW
  obtain ⟨p, q, hA0, hV, rfl, hfz, hnd⟩ := hW
  have hA : DataW.TrodAll enc Try.prog W 0 (fun _ => true) true Try.f5.params.toList args.toList ds p := hA0
  rw [Try.params5] at hA hval
  obtain ⟨v0, vs0, d0, ds0, p0, q0, hargs, rfl, rfl, h0, r0⟩ := trodAll_cons hA
  obtain ⟨v1, vs1, d1, ds1, p1, q1, rfl, rfl, rfl, h1, r1⟩ := trodAll_cons r0
  obtain ⟨v2, vs2, d2, ds2, p2, q2, rfl, rfl, rfl, h2, r2⟩ := trodAll_cons r1
  obtain ⟨v3, vs3, d3, ds3, p3, q3, rfl, rfl, rfl, h3, r3⟩ := trodAll_cons r2
  obtain ⟨rfl, rfl, rfl⟩ := trodAll_nil r3
  obtain rfl : args = #[v0, v1, v2, v3] := by cases args; simp_all
  obtain ⟨rfl, rfl⟩ := trodVars_none hV
  have lt0 : ∀ x ∈ p0, x.block < W.heap.size := by obtain ⟨m, hm⟩ := h0; exact DataW.trod_lt m _ _ _ hm
  have lt1 : ∀ x ∈ p1, x.block < W.heap.size := by obtain ⟨m, hm⟩ := h1; exact DataW.trod_lt m _ _ _ hm
  have lt2 : ∀ x ∈ p2, x.block < W.heap.size := by obtain ⟨m, hm⟩ := h2; exact DataW.trod_lt m _ _ _ hm
  have lt3 : ∀ x ∈ p3, x.block < W.heap.size := by obtain ⟨m, hm⟩ := h3; exact DataW.trod_lt m _ _ _ hm
  obtain ⟨n0, x0, a0, f0, w0⟩ := arg_rel tys_closed tys_one (by simp [tys]) (hval 0 49 v0 rfl rfl) h0
  obtain ⟨n1, x1, a1, f1, w1⟩ := arg_rel tys_closed tys_one (by simp [tys]) (hval 1 23 v1 rfl rfl) h1
  obtain ⟨n2, x2, a2, f2, w2⟩ := arg_rel tys_closed tys_one (by simp [tys]) (hval 2 5 v2 rfl rfl) h2
  obtain ⟨n3, x3, a3, f3, w3⟩ := arg_rel tys_closed tys_one (by simp [tys]) (hval 3 5 v3 rfl rfl) h3
  have hb : AL.bulk d0 + AL.bulk d1 + AL.bulk d2 + AL.bulk d3 ≤ 1048576 := by
    have := of_decide_eq_true hk
    simp only [List.append_nil, bulkAll_eq, AL.bulkAll] at this
    omega
  clear hA0
  refine (calls_of (law W n0 n1 n2 n3 x0 x1 x2 x3 f0 f1 f2 f3 (by omega)) (.cons a0 (.cons a1 (.cons a2 (.cons a3 .nil))))).mono fun e W' ⟨he, bel⟩ => ?_
  subst he
  exact ⟨_, rfl, _, _, _, [], _, [], hW', trodAll_mk1 (shut_bool Try.underlying4 _), (trodAll_cons_mk (Below.trod laidOut (by kernel_rfl) (of_decide_eq_true (by kernel_rfl)) h0 bel lt0) (trodAll_cons_mk (Below.trod laidOut (by kernel_rfl) (of_decide_eq_true (by kernel_rfl)) h1 bel lt1) (trodAll_cons_mk (Below.trod laidOut (by kernel_rfl) (of_decide_eq_true (by kernel_rfl)) h2 bel lt2) (trodAll_cons_mk (Below.trod laidOut (by kernel_rfl) (of_decide_eq_true (by kernel_rfl)) h3 bel lt3) trodAll_mk0)))), rfl, bel.frame _, fun h => by cases h⟩

set_option maxRecDepth 100000 in
theorem lifted (law : Law) (os : Os) (started : os.Started) (H : Type) (enc : TypeId × Value → H) (F : Stop.Interp) :
    ReturnsInHanded {} Try.checked os 5 .any ((Rows.OpenSpec.upto Rows.equalListsSpec).pre6 enc Try.prog Try.f5 Rows.equalListsUptoRow.domain false) (((Rows.OpenSpec.upto Rows.equalListsSpec).at F).post enc Try.prog Try.f5 false true false false) := by
  refine returnsInHanded_of_cond (C := Try.checked) (s := Rows.OpenSpec.upto Rows.equalListsSpec) (k := Rows.uptoSmall) rfl own started (by kernel_rfl) Try.func5
    (OpenSpec.witness (enc := enc) (C := Try.checked) (s := Rows.OpenSpec.upto Rows.equalListsSpec) (k := Rows.uptoSmall) rfl false ⟨#[], #[.slice none 0 0, .slice none 0 0, .int .u8 0, .int .u8 0], []⟩ 8 (by kernel_rfl) (by kernel_rfl) (by kernel_rfl)
      (x := ([.nil, .nil, .lit (.int .u8 0), .lit (.int .u8 0)], [], [])) (by kernel_rfl) rfl (by kernel_rfl)) ?_
  intro W base args ds gs before hval hW _ hk _
  exact contract law H enc W base args ds gs before hval hW hk

theorem over (law : Law) : Rows.equalListsUptoRow.holds Try.pinned (Rows.OpenSpec.upto Rows.equalListsSpec) :=
  OpenClaim.holds_of_cond 5 Try.f5 rfl rfl rfl rfl rfl rfl rfl ⟨rfl, rfl, rfl, rfl, rfl⟩ rfl rfl rfl rfl rfl (by kernel_rfl) Try.func5 (by kernel_rfl)
    (of_decide_eq_true (by kernel_rfl)) (by unfold Func.isWrapper; first | (rw [if_pos (by decide +kernel)]; kernel_rfl) | (rw [if_neg (by decide +kernel)]; exact ⟨rfl, rfl⟩))
    (fun os started H enc _ F => lifted law os started H enc F)

theorem proved (law : Law) : Rows.EqualListsUptoSaid := over law
end Go.Proofs.Ytiolpppbnbboiaa.el
