/- Functions of the program: what they return, and that they do. -/
import Derived.Test.YtcalbijmeifbhaaGreatHandA
set_option linter.unusedVariables false
set_option linter.unusedSimpArgs false
namespace Sp
open Go.AL
def backN (l : List Tm) : Nat → List (Int × Tm)
 | 0 => []
 | n + 1 => ((n : Int), nth default l n) :: backN l n
def backw (l : List Tm) : List (Int × Tm) := backN l l.length
theorem backN_len (l : List Tm) : ∀ n, (backN l n).length = n
 | 0 => rfl
 | n + 1 => by rw [backN, List.length_cons, backN_len l n]
theorem backN_get (l : List Tm) : ∀ n k, k < n → (backN l n)[k]? = some (((n - 1 - k : Nat) : Int), nth default l ((n - 1 - k : Nat) : Int))
 | 0, k, h => by omega
 | n + 1, 0, h => by simp [backN]
 | n + 1, k + 1, h => by
   rw [backN, List.getElem?_cons_succ, backN_get l n k (by omega)]
   rw [show n - 1 - k = n + 1 - 1 - (k + 1) by omega]
end Sp
namespace Go.AL
open Go.RowKit
set_option linter.unusedVariables false
set_option linter.unusedSectionVars false
set_option linter.unusedSimpArgs false
namespace TB
def bd : AC := (.seq (.seq (.reg [⟨(some 7), none, .mv (.t 3)⟩, ⟨(some 8), none, .bin .geq (.t 7) (.c (.int .i64 0))⟩] [])
   (.cond (.t 8) (.skip)
    (.exit 0)))
    (.seq (.block 1 (.seq (.reg [⟨(some 11), none, .mv (.t 0)⟩, ⟨(some 12), none, .mv (.t 3)⟩, ⟨(some 13), none, .ld false 1 (.t 1)⟩, ⟨(some 14), none, .mv (.t 3)⟩, ⟨(some 15), none, .ia 3 (.t 13) (.t 14)⟩, ⟨(some 16), none, .ld true 3 (.t 15)⟩, ⟨(some 17), none, .call (.t 11) [(.t 12), (.t 16)]⟩, ⟨(some 18), none, .un .not (.t 17)⟩] [])
      (.cond (.t 18) (.ret)
       (.skip))))
     (.reg [⟨(some 9), none, .mv (.t 3)⟩, ⟨(some 10), none, .bin .sub (.t 9) (.c (.int .i64 1))⟩, ⟨(some 3), none, .mv (.t 10)⟩] [])))
def inner : AC :=
 .seq (.reg [⟨(some 4), none, .ld false 1 (.t 1)⟩, ⟨(some 5), none, .len (.t 4)⟩, ⟨(some 6), none, .bin .sub (.t 5) (.c (.int .i64 1))⟩, ⟨(some 3), none, .mv (.t 6)⟩] [])
 (.block 0 (.loop bd))
def outer (g : Nat) : AC :=
 .seq (.reg [⟨(some 1), none, .box (.t 0)⟩, ⟨(some 2), none, .mv (.c .nilf)⟩] [])
 (.seq (.reg [⟨(some 3), none, .mkf (.func g) [] [(.t 1)]⟩, ⟨(some 2), none, .mv (.t 3)⟩] [])
  (.ret))
variable {P : Program} {W : World} {J : Nat → AH → AH → Prop} {E : AH → AH → Prop} {y : AV} {b : Nat}
def EV (y : AV) (b : Nat) (i : Int) : Env := [(0, y), (1, .ptr b 0), (3, .int .i64 i)]
def encP (p : Int × Tm) : AV := .tup [.int .i64 p.1, encT p.2]
structure Law (P : Program) (W : World) (ys : List AV) (J : Nat → AH → AH → Prop) (E : AH → AH → Prop) (y : AV) : Prop where
 le : ∀ k I τ, J k I τ → I.le τ
 shr : ∀ k I τ I', J k I τ → I'.le I → J k I' τ
 shrE : ∀ I τ I', E I τ → I'.le I → E I' τ
 step : ∀ k x I τ, ys[k]? = some x → J k I τ → ACallV P W y (unpk x) τ fun v τ' => I.le τ' ∧ ((v = .bool true ∧ J (k + 1) I τ') ∨ (v = .bool false ∧ E I τ'))
theorem drop_nil (e : Env) : Env.drop e [] = e := by simp [Env.drop]
theorem loop {l : List Tm} (hL : Law P W ((Sp.backw l).map encP) J E y) (hy : ∃ fy ya yc, y = .fn fy ya yc) (hlen : l.length < 9223372036854775808) {I : AH} {tok : Tok} (hI : I b = some (.cells [.lst 3 (l.map encT) tok])) :
  ∀ (n : Nat) (τ : AH), n ≤ l.length → J (l.length - n) I τ →
    AW P W none 19 (atEnd [] fun _ τ => J l.length I τ ∨ E I τ) [.c bd, .lp bd, .blk 0] (EV y b ((n : Int) - 1)) τ [] := by
 intro n
 induction n with
 | zero =>
   intro τ hn hJ
   refine AW.seq (AW.seq (AW.reg ?_))
   rw [wpOps]; simp only [wpA, ev, EV, Env.get, Env.set, Env.put, reduceIte, Nat.reduceEqDiff]
   rw [wpOps]; simp only [wpA, ev, EV, Env.get, Env.set, Env.put, binA, reduceIte, Nat.reduceEqDiff]
   refine ⟨trivial, ?_⟩
   rw [wpOps]
   refine AW.cond (b := false) (by simp [ev, Env.get, Env.drop]) ?_
   refine AW.exit (K' := []) rfl (AW.fin ?_)
   simp only [atEnd, resW, AH.delAll]
   refine ⟨List.nodup_nil, fun b hb => (by cases hb), .inl ?_⟩
   simpa using hJ
 | succ n ih =>
   intro τ hn hJ
   have hget : (l.map encT).getD n .any = encT (nth default l (n : Int)) := by
    have h1 : l[n]? = some l[n] := List.getElem?_eq_getElem (by omega)
    simp [List.getD_eq_getElem?_getD, nth, h1]
   have hb := hL.le _ _ _ hJ _ _ hI
   have hys : ((Sp.backw l).map encP)[l.length - (n + 1)]? = some (encP ((n : Int), nth default l (n : Int))) := by
    rw [List.getElem?_map, Sp.backw, Sp.backN_get l l.length (l.length - (n + 1)) (by omega), show l.length - 1 - (l.length - (n + 1)) = n by omega]; rfl
   refine AW.seq (AW.seq (AW.reg ?_))
   rw [wpOps]; simp only [wpA, ev, EV, Env.get, Env.set, Env.put, reduceIte, Nat.reduceEqDiff]
   rw [wpOps]; simp only [wpA, ev, EV, Env.get, Env.set, Env.put, binA, reduceIte, Nat.reduceEqDiff]
   refine ⟨trivial, ?_⟩
   rw [wpOps]
   rw [show ((n + 1 : Nat) : Int) - 1 = (n : Int) by omega]
   refine AW.cond (b := true) (by simp [ev, Env.get, Env.drop]) ?_
   refine AW.skip (AW.seq (AW.block (AW.seq (AW.reg ?_))))
   simp only [drop_nil]
   rw [wpOps]; simp only [wpA, unA, ev, Env.get, Env.set, Env.put, reduceIte, Nat.reduceEqDiff, reduceCtorEq, List.map]
   rw [wpOps]; simp only [wpA, unA, ev, Env.get, Env.set, Env.put, reduceIte, Nat.reduceEqDiff, reduceCtorEq, List.map]
   rw [wpOps]; simp only [wpA, unA, ev, Env.get, Env.set, Env.put, reduceIte, Nat.reduceEqDiff, reduceCtorEq, List.map, hb]
   refine ⟨by simp, ?_⟩
   simp only [List.getD_cons_zero]
   rw [wpOps]; simp only [wpA, unA, ev, Env.get, Env.set, Env.put, reduceIte, Nat.reduceEqDiff, reduceCtorEq, List.map]
   rw [wpOps]; simp only [wpA, unA, ev, Env.get, Env.set, Env.put, reduceIte, Nat.reduceEqDiff, reduceCtorEq, List.map]
   refine ⟨trivial, by omega, by simp; omega, ?_⟩
   simp only [Int.toNat_natCast, hget]
   rw [wpOps]; simp only [wpA, unA, ev, Env.get, Env.set, Env.put, reduceIte, Nat.reduceEqDiff, reduceCtorEq, List.map]
   rw [encT_eq]
   refine ⟨by simp [AV.cells, encN0], ?_⟩
   have hx : AV.agg (List.take 3 (AV.agg (encN0 (nth default l (n : Int)))).cells) = encT (nth default l (n : Int)) := by rw [encT_eq]; rfl
   rw [hx]
   rw [wpOps]; simp only [wpA, unA, ev, Env.get, Env.set, Env.put, reduceIte, Nat.reduceEqDiff, reduceCtorEq, List.map]
   refine wpA_mono_call (hL.step _ _ _ _ hys hJ) fun v τ2 ⟨hv1, hv2⟩ => ?_
   rcases hv2 with ⟨rfl, hJ2⟩ | ⟨rfl, hE2⟩
   ·skip
    rw [wpOps]; simp only [wpA, unA, ev, Env.get, Env.set, Env.put, reduceIte, Nat.reduceEqDiff, reduceCtorEq, List.map, Bool.not_true]
    rw [wpOps]
    refine AW.cond (b := false) (by simp [ev, Env.get]) ?_
    refine AW.skip (AW.blk (AW.reg ?_))
    rw [wpOps]; simp only [wpA, unA, ev, Env.get, Env.set, Env.put, reduceIte, Nat.reduceEqDiff, reduceCtorEq, List.map, binA]
    rw [wpOps]; simp only [wpA, unA, ev, Env.get, Env.set, Env.put, reduceIte, Nat.reduceEqDiff, reduceCtorEq, List.map, binA]
    refine ⟨trivial, ?_⟩
    rw [wpOps]; simp only [wpA, unA, ev, Env.get, Env.set, Env.put, reduceIte, Nat.reduceEqDiff, reduceCtorEq, List.map]
    rw [wpOps]
    refine AW.lp (AW.forget (env' := EV y b ((n : Int) - 1)) (fun u => ?_) (ih τ2 (by omega) ?_))
    ·have ew : IntKind.i64.wrap ((n : Int) - 1) = (n : Int) - 1 := inR_wrap (inR64 (by omega))
     simp only [drop_nil, EV, Env.get, ew]
     by_cases h0 : 0 = u
     ·simp [h0]
     by_cases h1 : 1 = u
     ·simp [h1]
     by_cases h3 : 3 = u
     ·subst h3; simp
     simp [h0, h1, h3]
    ·rw [show l.length - n = l.length - (n + 1) + 1 by omega]; exact hJ2
   ·skip
    rw [wpOps]; simp only [wpA, unA, ev, Env.get, Env.set, Env.put, reduceIte, Nat.reduceEqDiff, reduceCtorEq, List.map, Bool.not_false]
    rw [wpOps]
    refine AW.cond (b := true) (by simp [ev, Env.get]) ?_
    refine AW.ret ?_
    simp only [atEnd, resW, AH.delAll]
    exact ⟨List.nodup_nil, fun b hb => (by cases hb), .inr hE2⟩
theorem iter_ok {g : Nat} {l : List Tm} {tok : Tok} {fz : AH} (hg : codeOf P g = some (19, [], inner)) (hfz : fz b = some (.cells [.lst 3 (l.map encT) tok])) :
  IterOK P W fz (.fn (.func g) [] [.ptr b 0]) ((Sp.backw l).map encP) := by
 refine ⟨g, [], [.ptr b 0], rfl, ?_⟩
 intro J E y σ hy h1 h2 h3 h4 h5 h6 h7
 have hL : Law P W ((Sp.backw l).map encP) J E y := ⟨h1, h3, h5, h7⟩
 rw [show ((Sp.backw l).map encP).length = l.length by simp [Sp.backw, Sp.backN_len]]
 obtain ⟨fn, c, e1, e2, e3, e4, e5, e6⟩ := codeOf_spec hg
 refine acall_of e1 e2 e3 e4 e5 (by rw [e6]; simp) ?_
 rw [e6]
 have hb := h1 _ _ _ h6 _ _ hfz
 refine AW.seq (AW.reg ?_)
 rw [wpOps]; simp only [wpA, ev, argEnv, Env.get, Env.set, Env.put, reduceIte, Nat.reduceEqDiff, Nat.reduceAdd, reduceCtorEq, List.nil_append, List.cons_append, hb]
 refine ⟨by simp, ?_⟩
 simp only [List.getD_cons_zero]
 rw [wpOps]; simp only [wpA, ev, argEnv, Env.get, Env.set, Env.put, reduceIte, Nat.reduceEqDiff, Nat.reduceAdd, reduceCtorEq]
 intro hl
 rw [wpOps]; simp only [wpA, ev, argEnv, Env.get, Env.set, Env.put, binA, reduceIte, Nat.reduceEqDiff, Nat.reduceAdd, reduceCtorEq]
 refine ⟨trivial, ?_⟩
 rw [wpOps]; simp only [wpA, ev, argEnv, Env.get, Env.set, Env.put, reduceIte, Nat.reduceEqDiff, Nat.reduceAdd, reduceCtorEq]
 rw [wpOps, drop_nil]
 rw [List.length_map] at hl ⊢
 refine AW.block (AW.loop (AW.forget (env' := EV y b ((l.length : Int) - 1)) (fun u => ?_) (loop hL hy hl hfz l.length σ (Nat.le_refl _) (by rw [Nat.sub_self]; exact h6))))
 ·have ew : IntKind.i64.wrap ((l.length : Int) - 1) = (l.length : Int) - 1 := inR_wrap (inR64 (by omega))
  simp only [EV, Env.get, ew]
  by_cases h0 : 0 = u
  ·simp [h0]
  by_cases h1 : 1 = u
  ·simp [h1]
  by_cases h3 : 3 = u
  ·subst h3; simp
  simp [h0, h1, h3]
def C : Ctr where
 pv _ := none
 run vs st K := match asTs [.lst (.nm 0)] vs with
  | some l => K (.iter (.pair (.int .i64) (.nm 0)) (Sp.backw l)) st
  | none => False
theorem encPM (l : List (Int × Tm)) : l.map encP = @List.map (El (.pair (.int .i64) (.nm 0))) AV (encA (.pair (.int .i64) (.nm 0))) l := by
 have : (encA (.pair (.int .i64) (.nm 0)) : Int × Tm → AV) = encP := funext fun p => congrArg (fun x => AV.tup [.int .i64 p.1, x]) (encT_eq p.2).symm
 exact congrArg (fun f => List.map f l) this.symm
theorem ok {g h : Nat} (hg : codeOf P g = some (19, [], inner)) (hh : codeOf P h = some (4, [.t 2], outer g)) : CtrOK P W h C := by
 constructor
 ·intro vs pv hpv; cases hpv
 ·intro vs st K hrun fr0 w σ ds as hH hr
  simp only [C] at hrun
  split at hrun
  case h_2 => exact hrun.elim
  rename_i l ha
  have has := asTs_rel _ _ _ _ ha hr
  obtain ⟨tok, rfl⟩ : ∃ tok, as = [.lst 3 (l.map encT) tok] := by
   match as, has with
   | [a], has =>
     have h2 : [a.bare] = [encE (.lst (.nm 0)) l] := has
     have h1 := (List.cons.inj h2).1
     have h4 : encE (.lst (.nm 0)) l = .lst 3 (l.map encT) .none := congrArg (fun x => AV.lst 3 x Tok.none) (TA.encM l)
     rw [h4] at h1
     cases a <;> first | (cases h1; done) | skip
     rename_i sz xs tk
     injection h1 with h5 h6
     exact ⟨tk, by rw [h5, h6]⟩
   | [], has => simp [encTs] at has
   | _ :: _ :: _, has => simp [encTs] at has
  obtain ⟨fn, c, e1, e2, e3, e4, e5, e6⟩ := codeOf_spec hh
  refine acall_of e1 e2 e3 e4 e5 (by rw [e6]; simp) ?_
  rw [e6]
  refine AW.seq (AW.reg ?_)
  rw [wpOps]; simp only [wpA, ev, argEnv, Env.get, Env.set, Env.put, reduceIte, Nat.reduceEqDiff, Nat.reduceAdd, reduceCtorEq, List.map, AH.put_same]
  refine ⟨rfl, ?_⟩
  intro b hb
  rw [wpOps]; simp only [wpA, ev, argEnv, Env.get, Env.set, Env.put, reduceIte, Nat.reduceEqDiff, Nat.reduceAdd, reduceCtorEq, List.map, AH.put_same]
  rw [wpOps, drop_nil]
  refine AW.seq (AW.reg ?_)
  rw [wpOps]; simp only [wpA, ev, argEnv, Env.get, Env.set, Env.put, reduceIte, Nat.reduceEqDiff, Nat.reduceAdd, reduceCtorEq, List.map, AH.put_same]
  rw [wpOps]; simp only [wpA, ev, argEnv, Env.get, Env.set, Env.put, reduceIte, Nat.reduceEqDiff, Nat.reduceAdd, reduceCtorEq, List.map, AH.put_same]
  rw [wpOps, drop_nil]
  refine AW.ret ?_
  simp only [atEnd, resW, AH.delAll, one1, Env.get, reduceIte, Nat.reduceEqDiff]
  refine ⟨List.nodup_nil, fun b hb => (by cases hb), ?_⟩
  have hle : σ.le (σ.put b (.cells (AV.cells (.lst 3 (l.map encT) tok)))) := AH.le_put_of (AH.le_refl _) hb
  generalize hσ' : σ.put b (.cells (AV.cells (.lst 3 (l.map encT) tok))) = σ' at hle ⊢
  have hwb : w.fr b = none := AH.none_le hH.fr hb
  have hbb : σ' b = some (.cells [.lst 3 (l.map encT) tok]) := by rw [← hσ', AH.put_same]; rfl
  have hF : w.fr.le (w.fr.put b (.cells [.lst 3 (l.map encT) tok])) := AH.le_put_of (AH.le_refl _) hwb
  refine ⟨_, st, { w with fr := w.fr.put b (.cells [.lst 3 (l.map encT) tok]) }, hrun, rfl, (hH.grow hle).upfr (fun c o hc => ?_) hF (fun c hc1 hc2 => ?_), ?_, ⟨fun _ _ => rfl, fun _ _ => rfl, rfl, hF⟩, Nat.le_refl _⟩
  ·by_cases g1 : c = b
   ·subst g1; rw [AH.put_same] at hc; cases hc; exact hbb
   ·rw [AH.put_ne _ _ g1] at hc; exact hle _ _ (hH.fr _ _ hc)
  ·have g1 : c = b := by
    by_cases g1 : c = b
    ·exact g1
    ·rw [AH.put_ne _ _ g1] at hc1; exact absurd hc2 hc1
   subst g1
   refine ⟨fun x o hx e => ?_, fun i hi => ?_, fun o ho => ?_⟩
   ·obtain ⟨ao, k1, k2⟩ := hH.obj x o hx
    rw [e, hb] at k1; cases k1
   ·have hlv := hH.live i hi
    cases ht : w.tk i with
    | none => rfl
    | clip => rfl
    | own b' e lim =>
      rw [ht] at hlv
      by_cases g2 : b' = c
      ·subst g2
       have : σ b' = some (.row e lim) := hlv
       rw [hb] at this; cases this
      ·simpa [Tok.isOn] using g2
   ·have := (hH.lrec c o ho).1
    rw [hb] at this; cases this
  ·refine ⟨_, AH.le_refl _, ?_⟩
   exact encPM _ ▸ iter_ok hg (AH.put_same _ _ _)
end TB
end Go.AL
