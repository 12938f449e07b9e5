/- The row of RegularTrims, from an abstract call. -/
import Derived.Test.YtcalbijmeifbhaaGreatRows
import Derived.WalkKit
import Derived.ProofKit
import Derived.OpenShut
import Derived.JoinedCond
import Derived.ChangeOld
import Derived.Below
import Derived.Test.YtcalbijmeifbhaaGreatCoreC
set_option linter.unusedVariables false
set_option linter.unusedSimpArgs false
namespace Go.Proofs.YtcalbijmeifbhaaGreat.rt
open Go.ChangeShapes Go.WideShapes Go.ChangeAt Go.RowKit Go.AL
set_option linter.unusedVariables false
theorem own : ownKnob Tryz.prog.godebug = none := by kernel_rfl
theorem laidOut : laidOutB Tryz.prog = true := by kernel_rfl
def tys : List TypeId := [25, 3, 22, 23, 48, 26, 46, 9]
theorem tys_closed : closedTys Tryz.prog tys = true := by kernel_rfl
theorem tys_one : ∀ t ∈ tys, isSt Tryz.prog t = false → Tryz.prog.cellsOf t = 1 := by
 have : (tys.all fun t => isSt Tryz.prog t || Tryz.prog.cellsOf t == 1) = true := by kernel_rfl
 intro t ht h
 have := List.all_eq_true.1 this t ht
 rw [h] at this
 simpa using this
mutual
theorem bulk_eq {H : Type} : ∀ d : DataW H, Rows.uptoBulk d = AL.bulk d
 | .lit l => by cases l <;> simp [Rows.uptoBulk, AL.bulk]
 | .nil => by simp [Rows.uptoBulk, AL.bulk]
 | .ptr d => by simp [Rows.uptoBulk, AL.bulk, bulk_eq d]
 | .slice e s => by simp [Rows.uptoBulk, AL.bulk, bulkAll_eq e, bulkAll_eq s]
 | .agg ps => by simp [Rows.uptoBulk, AL.bulk, bulkAll_eq ps]
 | .iface _ d => by simp [Rows.uptoBulk, AL.bulk, bulk_eq d]
 | .map es => by simp [Rows.uptoBulk, AL.bulk, bulkEntries_eq es]
 | .held _ => by simp [Rows.uptoBulk, AL.bulk]
theorem bulkAll_eq {H : Type} : ∀ ds : List (DataW H), Rows.uptoBulkAll ds = AL.bulkAll ds
 | [] => by simp [Rows.uptoBulkAll, AL.bulkAll]
 | d :: ds => by simp [Rows.uptoBulkAll, AL.bulkAll, bulk_eq d, bulkAll_eq ds]
theorem bulkEntries_eq {H : Type} : ∀ ds : List (Lit × DataW H), Rows.uptoBulkEntries ds = AL.bulkEntries ds
 | [] => by simp [Rows.uptoBulkEntries, AL.bulkEntries]
 | d :: ds => by simp [Rows.uptoBulkEntries, AL.bulkEntries, bulkEntry_eq d, bulkEntries_eq ds]
theorem bulkEntry_eq {H : Type} : ∀ x : Lit × DataW H, Rows.uptoBulkEntry x = AL.bulkEntry x
 | (l, d) => by cases l <;> simp [Rows.uptoBulkEntry, AL.bulkEntry, bulk_eq d]
end
def Law : Prop := ∀ (W : World) (n0 n1 : Nat) (x0 x1 : List AV), Fits Tryz.prog n0 25 x0 → Fits Tryz.prog n1 26 x1 →
 (mkAV (isSt Tryz.prog 25) x0).wt + (mkAV (isSt Tryz.prog 26) x1).wt ≤ 1048576 →
 ACall Tryz.prog W 4 [mkAV (isSt Tryz.prog 25) x0, mkAV (isSt Tryz.prog 26) x1] (fun _ => none) fun v _ => v = .bool true
set_option maxRecDepth 100000 in
theorem contract (law : Law) (H : Type) (enc : TypeId × Value → H) (W : World) (base : Nat) (args : Array Value) (ds gs : List (DataW H)) (before : List MemPlace)
  (hval : ∀ (j : Nat) t v, Tryz.f4.params[j]? = some t → args[j]? = some v → Value.okWide Tryz.prog W .any base t v)
  (hW : DataW.Whole enc Tryz.prog Tryz.f4.params.toList Rows.regularTrimsSpec.vars false W args.toList ds gs before) (hk : Rows.uptoSmall H (ds ++ gs) = true) :
  Calls Tryz.prog 4 args W fun e W' => ∃ v, e = .returned v ∧ Rows.regularTrimsSpec.post enc Tryz.prog Tryz.f4 false true false false W args v W' := by
 have hW' := hW
 obtain ⟨p, q, hA0, hV, rfl, hfz, hnd⟩ := hW
 have hA : DataW.TrodAll enc Tryz.prog W 0 (fun _ => true) true Tryz.f4.params.toList args.toList ds p := hA0
 rw [Tryz.params4] at hA hval
 obtain ⟨v0, vs0, d0, ds0, p0, q0, hargs, rfl, rfl, h0, r0⟩ := trodAll_cons hA
 obtain ⟨v1, vs1, d1, ds1, p1, q1, rfl, rfl, rfl, h1, r1⟩ := trodAll_cons r0
 obtain ⟨rfl, rfl, rfl⟩ := trodAll_nil r1
 obtain rfl : args = #[v0, v1] := by cases args; simp_all
 obtain ⟨rfl, rfl⟩ := trodVars_none hV
 have lt0 : ∀ x ∈ p0, x.block < W.heap.size := by obtain ⟨m, hm⟩ := h0; exact DataW.trod_lt m _ _ _ hm
 have lt1 : ∀ x ∈ p1, x.block < W.heap.size := by obtain ⟨m, hm⟩ := h1; exact DataW.trod_lt m _ _ _ hm
 obtain ⟨n0, x0, a0, f0, w0⟩ := arg_rel tys_closed tys_one (by simp [tys]) (hval 0 25 v0 rfl rfl) h0
 obtain ⟨n1, x1, a1, f1, w1⟩ := arg_rel tys_closed tys_one (by simp [tys]) (hval 1 26 v1 rfl rfl) h1
 have hb : AL.bulk d0 + AL.bulk d1 ≤ 1048576 := by
  have := of_decide_eq_true hk
  simp only [List.append_nil, bulkAll_eq, AL.bulkAll] at this
  omega
 clear hA0
 refine (calls_of (law W n0 n1 x0 x1 f0 f1 (by omega)) (.cons a0 (.cons a1 .nil))).mono fun e W' ⟨he, bel⟩ => ?_
 subst he
 exact ⟨_, rfl, _, _, _, [], _, [], hW', trodAll_mk1 (shut_bool Tryz.underlying4 _), (trodAll_cons_mk (Below.trod laidOut (by kernel_rfl) (of_decide_eq_true (by kernel_rfl)) h0 bel lt0) (trodAll_cons_mk (Below.trod laidOut (by kernel_rfl) (of_decide_eq_true (by kernel_rfl)) h1 bel lt1) trodAll_mk0)), rfl, bel.frame _, fun h => by cases h⟩
set_option maxRecDepth 100000 in
theorem lifted (law : Law) (os : Os) (started : os.Started) (H : Type) (enc : TypeId × Value → H) (F : Stop.Interp) :
  ReturnsInHanded {} Tryz.checked os 4 .any ((Rows.OpenSpec.upto Rows.regularTrimsSpec).pre6 enc Tryz.prog Tryz.f4 Rows.regularTrimsUptoRow.domain false) (((Rows.OpenSpec.upto Rows.regularTrimsSpec).at F).post enc Tryz.prog Tryz.f4 false true false false) := by
 refine returnsInHanded_of_cond (C := Tryz.checked) (s := Rows.OpenSpec.upto Rows.regularTrimsSpec) (k := Rows.uptoSmall) rfl own started (by kernel_rfl) Tryz.func4
  (OpenSpec.witness (enc := enc) (C := Tryz.checked) (s := Rows.OpenSpec.upto Rows.regularTrimsSpec) (k := Rows.uptoSmall) rfl false ⟨#[], #[.agg #[.int .i64 0, .int .i64 0, .slice none 0 0, .slice none 0 0], .slice none 0 0], []⟩ 8 (by kernel_rfl) (by kernel_rfl) (by kernel_rfl)
   (x := ([.agg [.lit (.int .i64 0), .lit (.int .i64 0), .nil, .nil], .nil], [], [])) (by kernel_rfl) rfl (by kernel_rfl)) ?_
 intro W base args ds gs before hval hW _ hk _
 exact contract law H enc W base args ds gs before hval hW hk
theorem over (law : Law) : Rows.regularTrimsUptoRow.holds Tryz.pinned (Rows.OpenSpec.upto Rows.regularTrimsSpec) :=
 OpenClaim.holds_of_cond 4 Tryz.f4 rfl rfl rfl rfl rfl rfl rfl ⟨rfl, rfl, rfl, rfl, rfl⟩ rfl rfl rfl rfl rfl (by kernel_rfl) Tryz.func4 (by kernel_rfl)
  (of_decide_eq_true (by kernel_rfl)) (by unfold Func.isWrapper; first | (rw [if_pos (by decide +kernel)]; kernel_rfl) | (rw [if_neg (by decide +kernel)]; exact ⟨rfl, rfl⟩))
  (fun os started H enc _ F => lifted law os started H enc F)
theorem proved (law : Law) : Rows.RegularTrimsUptoSaid := over law
end Go.Proofs.YtcalbijmeifbhaaGreat.rt
