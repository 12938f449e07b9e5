/- The law of SpecialRuns, from the function's contract. -/
import Derived.Test.YtiolpppbnbboiaaGroupK
import Derived.Test.YtiolpppbnbboiaaRowSR

namespace Go.AL
open Go.RowKit Go.Proofs
set_option linter.unusedVariables false
set_option linter.unusedSimpArgs false

structure TyOK (P : Program) : Prop where
  F3 : ∀ (n : Nat) (xs : List AV), Fits P (n + 1) 3 xs = (∃ i, xs = [.int .i64 i] ∧ (Lit.int .i64 i).wf = true)
  F9 : ∀ (n : Nat) (xs : List AV), Fits P (n + 1) 9 xs = (∃ s, xs = [.str s] ∧ s.size ≤ maxLen)
  F67 : ∀ (n : Nat) (xs : List AV), Fits P (n + 1) 67 xs = (Fits P n 3 (xs.take 1) ∧ Fits P n 9 ((xs.drop 1).take 1) ∧ Fits P n 23 (((xs.drop 1).drop 1).take 1) ∧ ((xs.drop 1).drop 1).drop 1 = [])
  F23 : ∀ (n : Nat) (xs : List AV), Fits P (n + 1) 23 xs = (∃ ys, xs = [.lst 3 ys .none] ∧ ys.length ≤ maxLen ∧ ∀ y ∈ ys, ∃ zs, y = .agg zs ∧ Fits P n 67 zs)
  F69 : ∀ (n : Nat) (xs : List AV), Fits P (n + 1) 69 xs = (Fits P n 3 (xs.take 1) ∧ Fits P n 67 ((xs.drop 1).take 3) ∧ Fits P n 9 (((xs.drop 1).drop 3).take 1) ∧ ((xs.drop 1).drop 3).drop 1 = [])
  F63 : ∀ (n : Nat) (xs : List AV), Fits P (n + 1) 63 xs = (∃ ys, xs = [.lst 5 ys .none] ∧ ys.length ≤ maxLen ∧ ∀ y ∈ ys, ∃ zs, y = .agg zs ∧ Fits P n 69 zs)
  F65 : ∀ (n : Nat) (xs : List AV), Fits P (n + 1) 65 xs = (Fits P n 9 (xs.take 1) ∧ Fits P n 63 ((xs.drop 1).take 1) ∧ (xs.drop 1).drop 1 = [])
  F22 : ∀ (n : Nat) (xs : List AV), Fits P (n + 1) 22 xs = (∃ ys, xs = [.lst 2 ys .none] ∧ ys.length ≤ maxLen ∧ ∀ y ∈ ys, ∃ zs, y = .agg zs ∧ Fits P n 65 zs)
theorem tyOK : TyOK Try.prog := ⟨fun n xs => by kernel_rfl, fun n xs => by kernel_rfl, fun n xs => by kernel_rfl, fun n xs => by kernel_rfl, fun n xs => by kernel_rfl, fun n xs => by kernel_rfl, fun n xs => by kernel_rfl, fun n xs => by kernel_rfl⟩

/-- Lists of structs: each one read. -/
theorem list_of {α : Type} {enc : α → List AV} {m : α → Nat} : ∀ {ys : List AV}, (∀ y ∈ ys, ∃ zs, y = .agg zs ∧ ∃ t, zs = enc t ∧ m t ≤ AV.wtL zs) → ∃ l : List α, ys = l.map (fun t => .agg (enc t)) ∧ (l.map m).sum + l.length ≤ AV.wtL ys
  | [], _ => ⟨[], rfl, by simp⟩
  | y :: ys, h => by
    obtain ⟨zs, rfl, t, rfl, h1⟩ := h y (by simp)
    obtain ⟨l, rfl, h2⟩ := list_of (ys := ys) fun y hy => h y (by simp [hy])
    refine ⟨t :: l, rfl, ?_⟩
    simp only [AV.wtL, AV.wt, List.map_cons, List.sum_cons, List.length_cons]
    omega

theorem one_take {xs : List AV} {x : AV} {k : Nat} (h : xs.take 1 = [x]) : ∃ r, xs = x :: r ∧ xs.drop 1 = r := by
  cases xs with
  | nil => cases h
  | cons y r => simp only [List.take_succ_cons, List.take_zero, List.cons.injEq, and_true] at h; exact ⟨r, by rw [h], rfl⟩

theorem sumN : ∀ l : List Tm, (l.map Sp.nodesT).sum = Sp.nodesL l
  | [] => rfl
  | t :: l => by simp [Sp.nodesL, sumN l]

theorem sum_mem {α : Type} {f : α → Nat} {x : α} : ∀ {l : List α}, x ∈ l → f x ≤ (l.map f).sum
  | y :: l, h => by
    simp only [List.map_cons, List.sum_cons]
    rcases List.mem_cons.1 h with rfl | h
    · omega
    · have := sum_mem (f := f) h; omega

mutual
theorem toTm {P : Program} (T : TyOK P) : ∀ (n : Nat) (xs : List AV), Fits P n 67 xs → ∃ t : Tm, xs = encN0 t ∧ Sp.nodesT t ≤ AV.wtL xs
  | 0, xs, h => h.elim
  | 1, xs, h => by rw [T.F67] at h; exact h.1.elim
  | n + 2, xs, h => by
    rw [T.F67, T.F3, T.F9] at h
    obtain ⟨⟨i, h1, _⟩, ⟨s, h2, _⟩, h3, h4⟩ := h
    obtain ⟨l, h5, h6⟩ := toTms T (n + 1) _ h3
    obtain ⟨r, rfl, e1⟩ := one_take (k := 0) h1
    simp only [List.drop_succ_cons, List.drop_zero] at h2 h3 h4 h5
    obtain ⟨r2, rfl, e2⟩ := one_take (k := 0) h2
    simp only [List.drop_succ_cons, List.drop_zero] at h3 h4 h5
    obtain ⟨r3, rfl, e3⟩ := one_take (k := 0) h5
    simp only [List.drop_succ_cons, List.drop_zero] at h4
    subst h4
    refine ⟨.mk i s l, rfl, ?_⟩
    simp only [List.drop_succ_cons, List.drop_zero, List.take_succ_cons, List.take_zero, AV.wtL] at h6
    simp only [Sp.nodesT, AV.wtL, AV.wt] at h6 ⊢
    omega
theorem toTms {P : Program} (T : TyOK P) : ∀ (n : Nat) (xs : List AV), Fits P n 23 xs → ∃ l : List Tm, xs = [.lst 3 (l.map encT) .none] ∧ Sp.nodesL l ≤ AV.wtL xs
  | 0, xs, h => h.elim
  | n + 1, xs, h => by
    rw [T.F23] at h
    obtain ⟨ys, rfl, _, h1⟩ := h
    obtain ⟨l, rfl, h2⟩ := list_of (enc := encN0) (m := Sp.nodesT) fun y hy => let ⟨zs, e, hz⟩ := h1 y hy; ⟨zs, e, toTm T n zs hz⟩
    refine ⟨l, ?_, ?_⟩
    · congr 2; exact List.map_congr_left fun t _ => (encT_eq t).symm
    · rw [sumN] at h2
      simp only [AV.wtL, AV.wt]; omega
end

theorem toCmd {P : Program} (T : TyOK P) (n : Nat) (xs : List AV) (h : Fits P n 69 xs) : ∃ c : Cmd, xs = encN1 c ∧ Sp.nodesT c.sym ≤ AV.wtL xs := by
  match n, h with
  | 0, h => exact h.elim
  | 1, h => rw [T.F69] at h; exact h.1.elim
  | n + 2, h =>
    rw [T.F69, T.F3, T.F9] at h
    obtain ⟨⟨i, h1, _⟩, h2, ⟨s, h3, _⟩, h4⟩ := h
    obtain ⟨t, h5, h6⟩ := toTm T _ _ h2
    obtain ⟨r, rfl, e1⟩ := one_take (k := 0) h1
    simp only [List.drop_succ_cons, List.drop_zero] at h2 h3 h4 h5 h6
    have hr : r = encN0 t ++ [.str s] := by
      obtain ⟨r3, e3, e4⟩ := one_take (k := 0) h3
      rw [h4] at e4
      rw [← List.take_append_drop 3 r, h5, e3, ← e4]
    subst hr
    refine ⟨⟨i, t, s⟩, rfl, ?_⟩
    rw [h5] at h6
    simp only [AV.wtL, AV.wtL_append, AV.wt] at h6 ⊢
    omega

theorem toBlk {P : Program} (T : TyOK P) (n : Nat) (xs : List AV) (h : Fits P n 65 xs) : ∃ b : Blk, xs = encN2 b ∧ b.cmds.length + (b.cmds.map fun c => Sp.nodesT c.sym).sum + 1 ≤ AV.wtL xs := by
  match n, h with
  | 0, h => exact h.elim
  | 1, h => rw [T.F65] at h; exact h.1.elim
  | n + 2, h =>
    rw [T.F65, T.F9, T.F63] at h
    obtain ⟨⟨s, h1, _⟩, ⟨ys, h2, _, h3⟩, h4⟩ := h
    obtain ⟨l, rfl, h5⟩ := list_of (enc := encN1) (m := fun c => Sp.nodesT c.sym) fun y hy => let ⟨zs, e, hz⟩ := h3 y hy; ⟨zs, e, toCmd T _ zs hz⟩
    obtain ⟨r, rfl, e1⟩ := one_take (k := 0) h1
    simp only [List.drop_succ_cons, List.drop_zero] at h2 h4
    obtain ⟨r2, rfl, e2⟩ := one_take (k := 0) h2
    simp only [List.drop_succ_cons, List.drop_zero] at h4
    subst h4
    refine ⟨⟨s, l⟩, rfl, ?_⟩
    simp only [AV.wtL, AV.wt]; omega

theorem toBlks {P : Program} (T : TyOK P) (n : Nat) (xs : List AV) (h : Fits P n 22 xs) : ∃ l : List Blk, xs = [.lst 2 (l.map fun b => .agg (encN2 b)) .none] ∧ Sp.cntB l ≤ AV.wtL xs ∧ ∀ b ∈ l, ∀ c ∈ b.cmds, Sp.nodesT c.sym ≤ AV.wtL xs := by
  match n, h with
  | 0, h => exact h.elim
  | n + 1, h =>
    rw [T.F22] at h
    obtain ⟨ys, rfl, _, h1⟩ := h
    obtain ⟨l, rfl, h2⟩ := list_of (enc := encN2) (m := fun b => b.cmds.length + (b.cmds.map fun c => Sp.nodesT c.sym).sum + 1) fun y hy => let ⟨zs, e, hz⟩ := h1 y hy; ⟨zs, e, toBlk T _ zs hz⟩
    have hc : ∀ l : List Blk, Sp.cntB l ≤ ((l.map fun b => b.cmds.length + (b.cmds.map fun c => Sp.nodesT c.sym).sum + 1).sum : Nat) := by
      intro l
      induction l with
      | nil => simp [Sp.cntB]
      | cons b l ih => simp only [Sp.cntB, List.map_cons, List.sum_cons]; omega
    refine ⟨l, rfl, ?_, fun b hb c hcm => ?_⟩
    · have := hc l
      simp only [AV.wtL, AV.wt]; omega
    · have := sum_mem (f := fun b : Blk => b.cmds.length + (b.cmds.map fun c => Sp.nodesT c.sym).sum + 1) hb
      have h3 := sum_mem (f := fun c : Cmd => Sp.nodesT c.sym) hcm
      simp only [AV.wtL, AV.wt]
      omega

set_option maxRecDepth 100000 in
theorem law : Go.Proofs.Ytiolpppbnbboiaa.sr.Law := by
  intro W n0 n1 n2 x0 x1 x2 f0 f1 f2 hw
  obtain ⟨l, rfl, h1, h2⟩ := toBlks tyOK _ _ f0
  obtain ⟨inp, rfl, h3⟩ := toTms tyOK _ _ f1
  obtain ⟨i, rfl⟩ : ∃ i, x2 = [.int .i64 i] := by
    match n2, f2 with
    | 0, h => exact h.elim
    | n + 1, h => rw [tyOK.F3] at h; obtain ⟨i, h, _⟩ := h; exact ⟨i, h⟩
  have e22 : isSt Try.prog 22 = false := by kernel_rfl
  have e23 : isSt Try.prog 23 = false := by kernel_rfl
  have e3 : isSt Try.prog 3 = false := by kernel_rfl
  rw [e22, e23, e3] at hw ⊢
  simp only [mkAV, Bool.false_eq_true, if_false, List.headD_cons] at hw ⊢
  simp only [AV.wtL] at h1 h2 h3
  have hpre : Sp.cntB l ≤ 4000000 ∧ (∀ b ∈ l, ∀ c ∈ b.cmds, Sp.okL [c.sym]) ∧ Sp.okL inp := by
    refine ⟨by omega, fun b hb c hc => ?_, by unfold Sp.okL; omega⟩
    have := h2 b hb c hc
    simp only [Sp.okL, Sp.nodesL]; omega
  let w : Wd := { ρ := fun x => x, tk := fun _ => .none, ext := fun _ _ => False, fr := fun _ => none }
  have hok := (l32_SpecialRuns.ok W).run [.lst (.nm 2) l .none, .lst (.nm 0) inp .none, .int .i64 i] { env := [], hp := [], live := [], nx := 0 } (fun v _ => v = .bool true)
  have hrun : l32_SpecialRuns.C.run [.lst (.nm 2) l .none, .lst (.nm 0) inp .none, .int .i64 i] { env := [], hp := [], live := [], nx := 0 } (fun v _ => v = .bool true) := by
    show (Sp.cntB l ≤ 4000000 ∧ (∀ b ∈ l, ∀ c ∈ b.cmds, Sp.okL [c.sym]) ∧ Sp.okL inp) ∧ ∀ r : Bool, true = r → VV.bool r = .bool true
    exact ⟨hpre, fun r hr => by rw [← hr]⟩
  refine (hok hrun { base := fun _ => none, lo := none } w (fun _ => none) [] _ ⟨AH.le_refl _, AH.le_refl _, fun x o hx => by simp [hlk] at hx, fun x o hx => by simp [hlk] at hx, fun x o hx => by simp [hlk] at hx, fun x y o o' hx => by simp [hlk] at hx,
            fun i hi => by simp at hi, fun i hi => by simp at hi, fun i hi => by simp at hi, fun i hi => by simp at hi, List.nodup_nil, fun b hb => (by cases hb), fun l o hl => (by cases hl)⟩ ?_).mono fun a σ' ⟨v, st', w', g1, _, _, g4, _⟩ => ?_
  · simp only [VRelL, VRel]
    refine ⟨_, _, rfl, ⟨.none, rfl, trivial⟩, _, _, rfl, ⟨.none, ?_, trivial⟩, _, _, rfl, rfl, rfl⟩
    exact congrArg (fun x => AV.lst 3 x Tok.none) (TA.encM inp).symm
  · subst g1
    simpa only [VRel] using g4

end Go.AL
namespace Go.Proofs.Ytiolpppbnbboiaa
/-- SpecialRuns returns true, without a panic, for all arguments of at most this size. -/
theorem specialRunsUpto : Rows.SpecialRunsUptoSaid := sr.proved Go.AL.law
end Go.Proofs.Ytiolpppbnbboiaa
