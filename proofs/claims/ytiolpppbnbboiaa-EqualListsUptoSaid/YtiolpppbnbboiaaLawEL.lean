/- The law of EqualLists, from the function's contract. -/
import Derived.Test.YtiolpppbnbboiaaGroupC
import Derived.Test.YtiolpppbnbboiaaRowEL

set_option linter.unusedVariables false
set_option linter.unusedSimpArgs false
namespace Go.AL
open Go.RowKit Go.Proofs
set_option linter.unusedVariables false
set_option linter.unusedSimpArgs false

structure TyOK (P : Program) : Prop where
  F3 : ∀ (n : Nat) (xs : List AV), Fits P (n + 1) 3 xs = (∃ i, xs = [.int .i64 i] ∧ (Lit.int .i64 i).wf = true)
  F9 : ∀ (n : Nat) (xs : List AV), Fits P (n + 1) 9 xs = (∃ s, xs = [.str s] ∧ s.size ≤ maxLen)
  F67 : ∀ (n : Nat) (xs : List AV), Fits P (n + 1) 67 xs = (Fits P n 3 (xs.take 1) ∧ Fits P n 9 ((xs.drop 1).take 1) ∧ Fits P n 23 (((xs.drop 1).drop 1).take 1) ∧ ((xs.drop 1).drop 1).drop 1 = [])
  F23 : ∀ (n : Nat) (xs : List AV), Fits P (n + 1) 23 xs = (∃ ys, xs = [.lst 3 ys .none] ∧ ys.length ≤ maxLen ∧ ∀ y ∈ ys, ∃ zs, y = .agg zs ∧ Fits P n 67 zs)
  F49 : ∀ (n : Nat) (xs : List AV), Fits P (n + 1) 49 xs = (∃ ys, xs = [.lst 1 ys .none] ∧ ys.length ≤ maxLen ∧ ∀ y ∈ ys, ∃ zs, y = zs.headD .any ∧ Fits P n 9 zs)
  F5 : ∀ (n : Nat) (xs : List AV), Fits P (n + 1) 5 xs = (∃ i, xs = [.int .u8 i] ∧ (Lit.int .u8 i).wf = true)
theorem tyOK : TyOK Try.prog := ⟨fun n xs => by kernel_rfl, fun n xs => by kernel_rfl, fun n xs => by kernel_rfl, fun n xs => by kernel_rfl, fun n xs => by kernel_rfl, fun n xs => by kernel_rfl⟩

/-- Lists of structs: each one read. -/
theorem list_of {α : Type} {enc : α → List AV} {m : α → Nat} : ∀ {ys : List AV}, (∀ y ∈ ys, ∃ zs, y = .agg zs ∧ ∃ t, zs = enc t ∧ m t ≤ AV.wtL zs) → ∃ l : List α, ys = l.map (fun t => .agg (enc t)) ∧ (l.map m).sum + l.length ≤ AV.wtL ys
  | [], _ => ⟨[], rfl, by simp⟩
  | y :: ys, h => by
    obtain ⟨zs, rfl, t, rfl, h1⟩ := h y (by simp)
    obtain ⟨l, rfl, h2⟩ := list_of (ys := ys) fun y hy => h y (by simp [hy])
    refine ⟨t :: l, rfl, ?_⟩
    simp only [AV.wtL, AV.wt, List.map_cons, List.sum_cons, List.length_cons]
    omega

theorem one_take {xs : List AV} {x : AV} {k : Nat} (h : xs.take 1 = [x]) : ∃ r, xs = x :: r ∧ xs.drop 1 = r := by
  cases xs with
  | nil => cases h
  | cons y r => simp only [List.take_succ_cons, List.take_zero, List.cons.injEq, and_true] at h; exact ⟨r, by rw [h], rfl⟩

theorem sumN : ∀ l : List Tm, (l.map Sp.nodesT).sum = Sp.nodesL l
  | [] => rfl
  | t :: l => by simp [Sp.nodesL, sumN l]

mutual
theorem toTm {P : Program} (T : TyOK P) : ∀ (n : Nat) (xs : List AV), Fits P n 67 xs → ∃ t : Tm, xs = encN0 t ∧ Sp.nodesT t ≤ AV.wtL xs
  | 0, xs, h => h.elim
  | 1, xs, h => by rw [T.F67] at h; exact h.1.elim
  | n + 2, xs, h => by
    rw [T.F67, T.F3, T.F9] at h
    obtain ⟨⟨i, h1, _⟩, ⟨s, h2, _⟩, h3, h4⟩ := h
    obtain ⟨l, h5, h6⟩ := toTms T (n + 1) _ h3
    obtain ⟨r, rfl, e1⟩ := one_take (k := 0) h1
    simp only [List.drop_succ_cons, List.drop_zero] at h2 h3 h4 h5
    obtain ⟨r2, rfl, e2⟩ := one_take (k := 0) h2
    simp only [List.drop_succ_cons, List.drop_zero] at h3 h4 h5
    obtain ⟨r3, rfl, e3⟩ := one_take (k := 0) h5
    simp only [List.drop_succ_cons, List.drop_zero] at h4
    subst h4
    refine ⟨.mk i s l, rfl, ?_⟩
    simp only [List.drop_succ_cons, List.drop_zero, List.take_succ_cons, List.take_zero, AV.wtL] at h6
    simp only [Sp.nodesT, AV.wtL, AV.wt] at h6 ⊢
    omega
theorem toTms {P : Program} (T : TyOK P) : ∀ (n : Nat) (xs : List AV), Fits P n 23 xs → ∃ l : List Tm, xs = [.lst 3 (l.map encT) .none] ∧ Sp.nodesL l ≤ AV.wtL xs
  | 0, xs, h => h.elim
  | n + 1, xs, h => by
    rw [T.F23] at h
    obtain ⟨ys, rfl, _, h1⟩ := h
    obtain ⟨l, rfl, h2⟩ := list_of (enc := encN0) (m := Sp.nodesT) fun y hy => let ⟨zs, e, hz⟩ := h1 y hy; ⟨zs, e, toTm T n zs hz⟩
    refine ⟨l, ?_, ?_⟩
    · congr 2; exact List.map_congr_left fun t _ => (encT_eq t).symm
    · rw [sumN] at h2
      simp only [AV.wtL, AV.wt]; omega
end


theorem toStrs {P : Program} (T : TyOK P) (n : Nat) (xs : List AV) (h : Fits P n 49 xs) : ∃ l : List ByteArray, xs = [.lst 1 (l.map .str) .none] := by
  match n, h with
  | 0, h => exact h.elim
  | n + 1, h =>
    rw [T.F49] at h
    obtain ⟨ys, rfl, _, h1⟩ := h
    have key : ∀ ys : List AV, (∀ y ∈ ys, ∃ zs, y = zs.headD .any ∧ Fits P n 9 zs) → ∃ l : List ByteArray, ys = l.map .str := by
      intro ys
      induction ys with
      | nil => exact fun _ => ⟨[], rfl⟩
      | cons y ys ih =>
        intro h
        obtain ⟨l, rfl⟩ := ih fun y hy => h y (by simp [hy])
        obtain ⟨zs, rfl, hz⟩ := h y (by simp)
        match n, hz with
        | 0, hz => exact hz.elim
        | n + 1, hz =>
          rw [T.F9] at hz
          obtain ⟨s, rfl, _⟩ := hz
          exact ⟨s :: l, rfl⟩
    obtain ⟨l, rfl⟩ := key ys h1
    exact ⟨l, rfl⟩

theorem u8_wf {i : Int} (h : (Lit.int .u8 i).wf = true) : 0 ≤ i ∧ i < 256 := by
  have e1 : IntKind.u8.min = 0 := by decide
  have e2 : IntKind.u8.max = 255 := by decide
  simp [Lit.wf, e1, e2] at h
  omega

set_option maxRecDepth 100000 in
theorem law : Go.Proofs.Ytiolpppbnbboiaa.el.Law := by
  intro W n0 n1 n2 n3 x0 x1 x2 x3 f0 f1 f2 f3 hw
  obtain ⟨vars, rfl⟩ := toStrs tyOK _ _ f0
  obtain ⟨sy, rfl, h3⟩ := toTms tyOK _ _ f1
  obtain ⟨i, rfl, hi⟩ : ∃ i, x2 = [.int .u8 i] ∧ 0 ≤ i ∧ i < 256 := by
    match n2, f2 with
    | 0, h => exact h.elim
    | n + 1, h => rw [tyOK.F5] at h; obtain ⟨i, h, h1⟩ := h; exact ⟨i, h, u8_wf h1⟩
  obtain ⟨k, rfl, hk⟩ : ∃ i, x3 = [.int .u8 i] ∧ 0 ≤ i ∧ i < 256 := by
    match n3, f3 with
    | 0, h => exact h.elim
    | n + 1, h => rw [tyOK.F5] at h; obtain ⟨i, h, h1⟩ := h; exact ⟨i, h, u8_wf h1⟩
  have e49 : isSt Try.prog 49 = false := by kernel_rfl
  have e23 : isSt Try.prog 23 = false := by kernel_rfl
  have e5 : isSt Try.prog 5 = false := by kernel_rfl
  rw [e49, e23, e5] at hw ⊢
  simp only [mkAV, Bool.false_eq_true, if_false, List.headD_cons] at hw ⊢
  simp only [AV.wtL] at h3
  have hpre : Sp.okL sy := by unfold Sp.okL; omega
  let w : Wd := { ρ := fun x => x, tk := fun _ => .none, ext := fun _ _ => False, fr := fun _ => none }
  have hok := (l35_EqualLists.ok W).run [.lst .str vars .none, .lst (.nm 0) sy .none, .int .u8 i, .int .u8 k] { env := [], hp := [], live := [], nx := 0 } (fun v _ => v = .bool true)
  have hrun : l35_EqualLists.C.run [.lst .str vars .none, .lst (.nm 0) sy .none, .int .u8 i, .int .u8 k] { env := [], hp := [], live := [], nx := 0 } (fun v _ => v = .bool true) := by
    show (Sp.okL sy ∧ 0 ≤ i ∧ i < 256 ∧ 0 ≤ k ∧ k < 256) ∧ ∀ r : Bool, true = r → VV.bool r = .bool true
    exact ⟨⟨hpre, hi.1, hi.2, hk.1, hk.2⟩, fun r hr => by rw [← hr]⟩
  refine (hok hrun { base := fun _ => none, lo := none } w (fun _ => none) [] _ ⟨AH.le_refl _, AH.le_refl _, fun x o hx => by simp [hlk] at hx, fun x o hx => by simp [hlk] at hx, fun x o hx => by simp [hlk] at hx, fun x y o o' hx => by simp [hlk] at hx,
            fun i hi => by simp at hi, fun i hi => by simp at hi, fun i hi => by simp at hi, fun i hi => by simp at hi, List.nodup_nil, fun b hb => (by cases hb), fun l o hl => (by cases hl)⟩ ?_).mono fun a σ' ⟨v, st', w', g1, _, _, g4, _⟩ => ?_
  · simp only [VRelL, VRel]
    refine ⟨_, _, rfl, ⟨.none, rfl, trivial⟩, _, _, rfl, ⟨.none, ?_, trivial⟩, _, _, rfl, rfl, _, _, rfl, rfl, rfl⟩
    exact congrArg (fun x => AV.lst 3 x Tok.none) (TA.encM sy).symm
  · subst g1
    simpa only [VRel] using g4

end Go.AL
namespace Go.Proofs.Ytiolpppbnbboiaa
/-- EqualLists returns true, without a panic, for all arguments of at most this size. -/
theorem equalListsUpto : Rows.EqualListsUptoSaid := el.proved Go.AL.law
end Go.Proofs.Ytiolpppbnbboiaa
