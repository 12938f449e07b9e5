/- The law of RegularTrims, from the function's contract. -/
import Derived.Test.YtcalbijmeifbhaaGreatGroupE
import Derived.Test.YtcalbijmeifbhaaGreatRowRT
set_option linter.unusedVariables false
set_option linter.unusedSimpArgs false
namespace Go.AL
open Go.RowKit Go.Proofs
set_option linter.unusedVariables false
set_option linter.unusedSimpArgs false
structure TyOK (P : Program) : Prop where
 F3 : ∀ (n : Nat) (xs : List AV), Fits P (n + 1) 3 xs = (∃ i, xs = [.int .i64 i] ∧ (Lit.int .i64 i).wf = true)
 F9 : ∀ (n : Nat) (xs : List AV), Fits P (n + 1) 9 xs = (∃ s, xs = [.str s] ∧ s.size ≤ maxLen)
 F46 : ∀ (n : Nat) (xs : List AV), Fits P (n + 1) 46 xs = (Fits P n 3 (xs.take 1) ∧ Fits P n 9 ((xs.drop 1).take 1) ∧ Fits P n 26 (((xs.drop 1).drop 1).take 1) ∧ ((xs.drop 1).drop 1).drop 1 = [])
 F26 : ∀ (n : Nat) (xs : List AV), Fits P (n + 1) 26 xs = (∃ ys, xs = [.lst 3 ys .none] ∧ ys.length ≤ maxLen ∧ ∀ y ∈ ys, ∃ zs, y = .agg zs ∧ Fits P n 46 zs)
 F22 : ∀ (n : Nat) (xs : List AV), Fits P (n + 1) 22 xs = (∃ ys, xs = [.lst 1 ys .none] ∧ ys.length ≤ maxLen ∧ ∀ y ∈ ys, ∃ zs, y = zs.headD .any ∧ Fits P n 3 zs)
 F48 : ∀ (n : Nat) (xs : List AV), Fits P (n + 1) 48 xs = (Fits P n 3 (xs.take 1) ∧ Fits P n 3 ((xs.drop 1).take 1) ∧ Fits P n 3 (((xs.drop 1).drop 1).take 1) ∧ Fits P n 46 ((((xs.drop 1).drop 1).drop 1).take 3) ∧ Fits P n 26 (((((xs.drop 1).drop 1).drop 1).drop 3).take 1) ∧ Fits P n 3 ((((((xs.drop 1).drop 1).drop 1).drop 3).drop 1).take 1) ∧ (((((xs.drop 1).drop 1).drop 1).drop 3).drop 1).drop 1 = [])
 F23 : ∀ (n : Nat) (xs : List AV), Fits P (n + 1) 23 xs = (∃ ys, xs = [.lst 8 ys .none] ∧ ys.length ≤ maxLen ∧ ∀ y ∈ ys, ∃ zs, y = .agg zs ∧ Fits P n 48 zs)
 F25 : ∀ (n : Nat) (xs : List AV), Fits P (n + 1) 25 xs = (Fits P n 3 (xs.take 1) ∧ Fits P n 3 ((xs.drop 1).take 1) ∧ Fits P n 22 (((xs.drop 1).drop 1).take 1) ∧ Fits P n 23 ((((xs.drop 1).drop 1).drop 1).take 1) ∧ (((xs.drop 1).drop 1).drop 1).drop 1 = [])
theorem tyOK : TyOK Tryz.prog := ⟨fun n xs => by kernel_rfl, fun n xs => by kernel_rfl, fun n xs => by kernel_rfl, fun n xs => by kernel_rfl, fun n xs => by kernel_rfl, fun n xs => by kernel_rfl, fun n xs => by kernel_rfl, fun n xs => by kernel_rfl⟩
/-- Lists of structs: each one read. -/
theorem list_of {α : Type} {enc : α → List AV} {m : α → Nat} : ∀ {ys : List AV}, (∀ y ∈ ys, ∃ zs, y = .agg zs ∧ ∃ t, zs = enc t ∧ m t ≤ AV.wtL zs) → ∃ l : List α, ys = l.map (fun t => .agg (enc t)) ∧ (l.map m).sum + l.length ≤ AV.wtL ys
 | [], _ => ⟨[], rfl, by simp⟩
 | y :: ys, h => by
   obtain ⟨zs, rfl, t, rfl, h1⟩ := h y (by simp)
   obtain ⟨l, rfl, h2⟩ := list_of (ys := ys) fun y hy => h y (by simp [hy])
   refine ⟨t :: l, rfl, ?_⟩
   simp only [AV.wtL, AV.wt, List.map_cons, List.sum_cons, List.length_cons]
   omega
theorem one_take {xs : List AV} {x : AV} (h : xs.take 1 = [x]) : ∃ r, xs = x :: r ∧ xs.drop 1 = r := by
 cases xs with
 | nil => cases h
 | cons y r => simp only [List.take_succ_cons, List.take_zero, List.cons.injEq, and_true] at h; exact ⟨r, by rw [h], rfl⟩
theorem three_take {xs : List AV} {x y z : AV} (h : xs.take 3 = [x, y, z]) : ∃ r, xs = x :: y :: z :: r := by
 match xs, h with
 | [], h => cases h
 | [a], h => cases h
 | [a, b], h => cases h
 | a :: b :: c :: r, h => simp only [List.take_succ_cons, List.take_zero, List.cons.injEq, and_true] at h; exact ⟨r, by rw [h.1, h.2.1, h.2.2]⟩
theorem sumN : ∀ l : List Tm, (l.map Sp.nodesT).sum = Sp.nodesL l
 | [] => rfl
 | t :: l => by simp [Sp.nodesL, sumN l]
theorem toI {P : Program} (T : TyOK P) {n : Nat} {xs : List AV} (h : Fits P n 3 xs) : ∃ i : Int, xs = [.int .i64 i] := by
 match n, h with
 | 0, h => exact h.elim
 | n + 1, h => rw [T.F3] at h; obtain ⟨i, h, _⟩ := h; exact ⟨i, h⟩
mutual
theorem toTm {P : Program} (T : TyOK P) : ∀ (n : Nat) (xs : List AV), Fits P n 46 xs → ∃ t : Tm, xs = encN0 t ∧ Sp.nodesT t ≤ AV.wtL xs
 | 0, xs, h => h.elim
 | 1, xs, h => by rw [T.F46] at h; exact h.1.elim
 | n + 2, xs, h => by
   rw [T.F46, T.F3, T.F9] at h
   obtain ⟨⟨i, h1, _⟩, ⟨s, h2, _⟩, h3, h4⟩ := h
   obtain ⟨l, h5, h6⟩ := toTms T (n + 1) _ h3
   obtain ⟨r, rfl, e1⟩ := one_take h1
   simp only [List.drop_succ_cons, List.drop_zero] at h2 h3 h4 h5
   obtain ⟨r2, rfl, e2⟩ := one_take h2
   simp only [List.drop_succ_cons, List.drop_zero] at h3 h4 h5
   obtain ⟨r3, rfl, e3⟩ := one_take h5
   simp only [List.drop_succ_cons, List.drop_zero] at h4
   subst h4
   refine ⟨.mk i s l, rfl, ?_⟩
   simp only [List.drop_succ_cons, List.drop_zero, List.take_succ_cons, List.take_zero, AV.wtL] at h6
   simp only [Sp.nodesT, AV.wtL, AV.wt] at h6 ⊢
   omega
theorem toTms {P : Program} (T : TyOK P) : ∀ (n : Nat) (xs : List AV), Fits P n 26 xs → ∃ l : List Tm, xs = [.lst 3 (l.map encT) .none] ∧ Sp.nodesL l ≤ AV.wtL xs
 | 0, xs, h => h.elim
 | n + 1, xs, h => by
   rw [T.F26] at h
   obtain ⟨ys, rfl, _, h1⟩ := h
   obtain ⟨l, rfl, h2⟩ := list_of (enc := encN0) (m := Sp.nodesT) fun y hy => let ⟨zs, e, hz⟩ := h1 y hy; ⟨zs, e, toTm T n zs hz⟩
   refine ⟨l, ?_, ?_⟩
   ·congr 2; exact List.map_congr_left fun t _ => (encT_eq t).symm
   ·rw [sumN] at h2
    simp only [AV.wtL, AV.wt]; omega
end
theorem toInts {P : Program} (T : TyOK P) (n : Nat) (xs : List AV) (h : Fits P n 22 xs) : ∃ l : List Int, xs = [.lst 1 (l.map fun n => .int .i64 n) .none] := by
 match n, h with
 | 0, h => exact h.elim
 | n + 1, h =>
   rw [T.F22] at h
   obtain ⟨ys, rfl, _, h1⟩ := h
   have key : ∀ ys : List AV, (∀ y ∈ ys, ∃ zs, y = zs.headD .any ∧ Fits P n 3 zs) → ∃ l : List Int, ys = l.map fun n => .int .i64 n := by
    intro ys
    induction ys with
    | nil => exact fun _ => ⟨[], rfl⟩
    | cons y ys ih =>
      intro h
      obtain ⟨l, rfl⟩ := ih fun y hy => h y (by simp [hy])
      obtain ⟨zs, rfl, hz⟩ := h y (by simp)
      obtain ⟨s, rfl⟩ := toI T hz
      exact ⟨s :: l, rfl⟩
   obtain ⟨l, rfl⟩ := key ys h1
   exact ⟨l, rfl⟩
def mE (e : Edg) : Nat := Sp.nodesT e.sym + Sp.nodesL e.exc
theorem toEdg {P : Program} (T : TyOK P) (n : Nat) (xs : List AV) (h : Fits P n 48 xs) : ∃ e : Edg, xs = encN6 e ∧ mE e ≤ AV.wtL xs := by
 match n, h with
 | 0, h => exact h.elim
 | n + 1, h =>
   rw [T.F48] at h
   obtain ⟨h1, h2, h3, h4, h5, h6, h7⟩ := h
   obtain ⟨a, h1⟩ := toI T h1
   obtain ⟨r, rfl, _⟩ := one_take h1
   simp only [List.drop_succ_cons, List.drop_zero] at h2 h3 h4 h5 h6 h7
   obtain ⟨b, h2⟩ := toI T h2
   obtain ⟨r, rfl, _⟩ := one_take h2
   simp only [List.drop_succ_cons, List.drop_zero] at h3 h4 h5 h6 h7
   obtain ⟨c, h3⟩ := toI T h3
   obtain ⟨r, rfl, _⟩ := one_take h3
   simp only [List.drop_succ_cons, List.drop_zero] at h4 h5 h6 h7
   obtain ⟨t, ht, wt⟩ := toTm T n _ h4
   obtain ⟨r, rfl⟩ := three_take ht
   simp only [List.drop_succ_cons, List.drop_zero] at h5 h6 h7
   obtain ⟨l, hl, wl⟩ := toTms T n _ h5
   obtain ⟨r, rfl, _⟩ := one_take hl
   simp only [List.drop_succ_cons, List.drop_zero] at h6 h7
   obtain ⟨i, h6⟩ := toI T h6
   obtain ⟨r, rfl, _⟩ := one_take h6
   simp only [List.drop_succ_cons, List.drop_zero] at h7
   subst h7
   refine ⟨⟨a, b, c, t, l, i⟩, rfl, ?_⟩
   simp only [List.drop_succ_cons, List.drop_zero, List.take_succ_cons, List.take_zero, AV.wtL] at wt wl
   simp only [mE, AV.wtL]
   omega
theorem toAut {P : Program} (T : TyOK P) (n : Nat) (xs : List AV) (h : Fits P n 25 xs) : ∃ a : Aut, xs = encN7 a ∧ (a.edges.map mE).sum + a.edges.length ≤ AV.wtL xs := by
 match n, h with
 | 0, h => exact h.elim
 | n + 1, h =>
   rw [T.F25] at h
   obtain ⟨h1, h2, h3, h4, h5⟩ := h
   obtain ⟨a, h1⟩ := toI T h1
   obtain ⟨r, rfl, _⟩ := one_take h1
   simp only [List.drop_succ_cons, List.drop_zero] at h2 h3 h4 h5
   obtain ⟨b, h2⟩ := toI T h2
   obtain ⟨r, rfl, _⟩ := one_take h2
   simp only [List.drop_succ_cons, List.drop_zero] at h3 h4 h5
   obtain ⟨c, h3⟩ := toInts T _ _ h3
   obtain ⟨r, rfl, _⟩ := one_take h3
   simp only [List.drop_succ_cons, List.drop_zero] at h4 h5
   match n, h4 with
   | 0, h4 => exact h4.elim
   | n + 1, h4 =>
     rw [T.F23] at h4
     obtain ⟨ys, h4, _, h6⟩ := h4
     obtain ⟨r, rfl, _⟩ := one_take h4
     simp only [List.drop_succ_cons, List.drop_zero] at h5
     subst h5
     obtain ⟨l, rfl, h7⟩ := list_of (enc := encN6) (m := mE) fun y hy => let ⟨zs, e, hz⟩ := h6 y hy; ⟨zs, e, toEdg T n zs hz⟩
     refine ⟨⟨a, b, c, l⟩, rfl, ?_⟩
     simp only [AV.wtL, AV.wt]
     omega
theorem le_sum {α : Type} {m : α → Nat} : ∀ {l : List α} {x : α}, x ∈ l → m x ≤ (l.map m).sum
 | y :: l, x, h => by
   rcases List.mem_cons.1 h with rfl | h
   ·simp
   ·have := le_sum (m := m) h
    simp only [List.map_cons, List.sum_cons]; omega
set_option maxRecDepth 100000 in
theorem law : Go.Proofs.YtcalbijmeifbhaaGreat.rt.Law := by
 intro W n0 n1 x0 x1 f0 f1 hw
 obtain ⟨a, rfl, h2⟩ := toAut tyOK _ _ f0
 obtain ⟨v, rfl, h3⟩ := toTms tyOK _ _ f1
 have e25 : isSt Tryz.prog 25 = true := by kernel_rfl
 have e26 : isSt Tryz.prog 26 = false := by kernel_rfl
 rw [e25, e26] at hw ⊢
 simp only [mkAV, Bool.false_eq_true, if_false, if_true, List.headD_cons, AV.wt] at hw ⊢
 simp only [AV.wtL, AV.wt] at h3
 have hpre : Sp.okA a ∧ Sp.okL v ∧ a.edges.length ≤ 4000000 := by
  refine ⟨fun e he => ?_, by unfold Sp.okL; omega, by omega⟩
  have hm := le_sum (m := mE) he
  simp only [mE] at hm
  refine ⟨by simp only [Sp.okL, Sp.nodesL]; omega, fun t ht => ?_⟩
  have := le_sum (m := Sp.nodesT) ht
  rw [sumN] at this
  simp only [Sp.okL, Sp.nodesL]; omega
 let w : Wd := { ρ := fun x => x, tk := fun _ => .none, ext := fun _ _ => False, fr := fun _ => none }
 have hok := (l23_RegularTrims.ok W).run [.el 7 a, .lst (.nm 0) v .none] { env := [], hp := [], live := [], nx := 0 } (fun v _ => v = .bool true)
 have hrun : l23_RegularTrims.C.run [.el 7 a, .lst (.nm 0) v .none] { env := [], hp := [], live := [], nx := 0 } (fun v _ => v = .bool true) := by
  show (Sp.okA a ∧ Sp.okL v ∧ a.edges.length ≤ 4000000) ∧ ∀ r : Bool, true = r → VV.bool r = .bool true
  exact ⟨hpre, fun r hr => by rw [← hr]⟩
 refine (hok hrun { base := fun _ => none, lo := none } w (fun _ => none) [] _ ⟨AH.le_refl _, AH.le_refl _, fun x o hx => by simp [hlk] at hx, fun x o hx => by simp [hlk] at hx, fun x o hx => by simp [hlk] at hx, fun x y o o' hx => by simp [hlk] at hx,
      fun i hi => by simp at hi, fun i hi => by simp at hi, fun i hi => by simp at hi, fun i hi => by simp at hi, List.nodup_nil, fun b hb => (by cases hb), fun l o hl => (by cases hl)⟩ ?_).mono fun a σ' ⟨v, st', w', g1, _, _, g4, _⟩ => ?_
 ·simp only [VRelL, VRel]
  refine ⟨_, _, rfl, ?_, _, _, rfl, ⟨.none, ?_, trivial⟩, rfl⟩
  ·exact ⟨encN7 a, rfl, Uni.bare (n := 7) (x := a)⟩
  ·exact congrArg (fun x => AV.lst 3 x Tok.none) (TA.encM v).symm
 ·subst g1
  simpa only [VRel] using g4
end Go.AL
namespace Go.Proofs.YtcalbijmeifbhaaGreat
/-- RegularTrims returns true, without a panic, for all arguments of at most this size. -/
theorem regularTrimsUpto : Rows.RegularTrimsUptoSaid := rt.proved Go.AL.law
end Go.Proofs.YtcalbijmeifbhaaGreat
