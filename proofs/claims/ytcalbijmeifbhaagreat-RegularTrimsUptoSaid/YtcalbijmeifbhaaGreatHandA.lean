/- Functions of the program: what they return, and that they do. -/
import Derived.Test.YtcalbijmeifbhaaGreatEvalC
set_option linter.unusedVariables false
set_option linter.unusedSimpArgs false
namespace Sp
open Go.AL
mutual
def flatT : Tm → List Tm
 | .mk k s ks => .mk k s ks :: flatL ks
def flatL : List Tm → List Tm
 | [] => []
 | t :: l => flatT t ++ flatL l
end
theorem flatT_eq (t : Tm) : flatT t = t :: flatL t.kids := by cases t; rfl
mutual
theorem flatT_rec {p : Tm → Prop} (h : ∀ t, (∀ u ∈ t.kids, p u) → p t) : (t : Tm) → p t
 | .mk k s ks => h (.mk k s ks) (flatL_rec h ks)
theorem flatL_rec {p : Tm → Prop} (h : ∀ t, (∀ u ∈ t.kids, p u) → p t) : (l : List Tm) → ∀ u ∈ l, p u
 | [] => fun u hu => by cases hu
 | t :: l => fun u hu => (List.mem_cons.1 hu).elim (fun e => e ▸ flatT_rec h t) (fun e => flatL_rec h l u e)
end
end Sp
namespace Go.AL
open Go.RowKit
set_option linter.unusedVariables false
set_option linter.unusedSectionVars false
set_option linter.unusedSimpArgs false
namespace TA
def body (f : Nat) : AC := (.seq (.reg [⟨(some 10), none, .bin .lss (.t 9) (.t 8)⟩] [])
   (.seq (.cond (.t 10) (.skip)
    (.exit 0))
    (.seq (.block 1 (.seq (.reg [⟨(some 11), none, .ia 3 (.t 7) (.t 9)⟩, ⟨(some 12), none, .ld true 3 (.t 11)⟩, ⟨(some 6), none, .new [(.int .i64 0), (.str ⟨#[]⟩), (.lst 3 [] .clip)]⟩, ⟨none, none, .st 3 (.t 6) (.t 12)⟩] [])
      (.seq (.reg [⟨(some 13), none, .ld false 1 (.t 1)⟩, ⟨(some 14), none, .ld true 3 (.t 6)⟩, ⟨(some 15), none, .call (.t 13) [(.t 14)]⟩, ⟨(some 16), none, .un .not (.t 15)⟩, ⟨(some 17), none, .mv (.t 16)⟩, ⟨(some 18), (some (17, false)), .ld false 1 (.t 2)⟩, ⟨(some 19), (some (17, false)), .fa 2 1 (.t 6)⟩, ⟨(some 20), (some (17, false)), .ld false 1 (.t 19)⟩, ⟨(some 21), (some (17, false)), .call (.t 18) [(.t 20)]⟩, ⟨(some 22), (some (17, false)), .un .not (.t 21)⟩, ⟨(some 23), none, .pick (.t 17) (.c (.bool true)) (.t 22)⟩] [])
       (.cond (.t 23) (.seq (.reg [⟨(some 4), none, .mv (.c (.bool false))⟩] [])
        (.ret))
        (.skip)))))
     (.reg [⟨(some 24), none, .bin .add (.t 9) (.c (.int .i64 1))⟩, ⟨(some 9), none, .mv (.t 24)⟩] []))))
def tail : AC := (.seq (.reg [⟨(some 4), none, .mv (.c (.bool true))⟩] [])
  (.ret))
def walk (f : Nat) : AC :=
 .seq (.reg [⟨(some 4), none, .mv (.c (.bool false))⟩] [])
 (.seq (.seq (.reg [⟨(some 7), none, .mv (.t 0)⟩, ⟨(some 8), none, .len (.t 7)⟩, ⟨(some 9), none, .mv (.c (.int .i64 0))⟩] [])
  (.block 0 (.loop (body f)))) tail)
def inner (f : Nat) : AC :=
 .seq (.reg [⟨(some 2), none, .box (.t 0)⟩] [])
 (.seq (.reg [⟨(some 3), none, .new [.nilf]⟩] [])
  (.seq (.reg [⟨(some 4), none, .mkf (.func f) [] [(.t 2), (.t 3)]⟩, ⟨none, none, .st 1 (.t 3) (.t 4)⟩] [])
   (.reg [⟨(some 5), none, .ld false 1 (.t 3)⟩, ⟨(some 6), none, .ld false 1 (.t 1)⟩, ⟨(some 7), none, .call (.t 5) [(.t 6)]⟩] [])))
def outer (g : Nat) : AC :=
 .seq (.reg [⟨(some 1), none, .box (.t 0)⟩, ⟨(some 2), none, .mv (.c .nilf)⟩] [])
 (.seq (.reg [⟨(some 3), none, .mkf (.func g) [] [(.t 1)]⟩, ⟨(some 2), none, .mv (.t 3)⟩] [])
  (.ret))
variable {P : Program} {W : World} {f : Nat} {ys : List AV} {J : Nat → AH → AH → Prop} {E : AH → AH → Prop} {y : AV} {b1 b2 : Nat}
structure Law (P : Program) (W : World) (ys : List AV) (J : Nat → AH → AH → Prop) (E : AH → AH → Prop) (y : AV) : Prop where
 le : ∀ k I τ, J k I τ → I.le τ
 grow : ∀ k I τ I' τ', J k I τ → τ.le τ' → I.le I' → I'.le τ' → (∀ c, I' c ≠ none → I c = none → τ c = none) → J k I' τ'
 shr : ∀ k I τ I', J k I τ → I'.le I → J k I' τ
 growE : ∀ I τ τ', E I τ → τ.le τ' → E I τ'
 shrE : ∀ I τ I', E I τ → I'.le I → E I' τ
 step : ∀ k x I τ, ys[k]? = some x → J k I τ → ACallV P W y [x] τ fun v τ' => I.le τ' ∧ ((v = .bool true ∧ J (k + 1) I τ') ∨ (v = .bool false ∧ E I τ'))
def Has (ys : List AV) (k : Nat) (l : List Tm) : Prop := ∀ i x, l[i]? = some x → ys[k + i]? = some (encT x)
theorem Has.app {k : Nat} {a b : List Tm} (h : Has ys k (a ++ b)) : Has ys k a ∧ Has ys (k + a.length) b := by
 refine ⟨fun i x hx => h i x ?_, fun i x hx => ?_⟩
 ·rw [List.getElem?_append_left]; exact hx
  rcases Nat.lt_or_ge i a.length with h1 | h1
  ·exact h1
  ·rw [List.getElem?_eq_none h1] at hx; cases hx
 ·have := h (a.length + i) x (by rw [List.getElem?_append_right (by omega)]; simpa using hx)
  rw [← this]; congr 1; omega
theorem Has.cons {k : Nat} {a : Tm} {b : List Tm} (h : Has ys k (a :: b)) : ys[k]? = some (encT a) ∧ Has ys (k + 1) b := by
 have := Has.app (a := [a]) (b := b) h
 exact ⟨by simpa using this.1 0 a rfl, this.2⟩
def Post (J : Nat → AH → AH → Prop) (E : AH → AH → Prop) (k : Nat) (I : AH) (v : AV) (τ : AH) : Prop := I.le τ ∧ ((v = .bool true ∧ J k I τ) ∨ (v = .bool false ∧ E I τ))
def Cells (I : AH) (f b1 b2 : Nat) (y : AV) : Prop := I b1 = some (.cells [y]) ∧ I b2 = some (.cells [.fn (.func f) [] [.ptr b1 0, .ptr b2 0]])
def Call (P : Program) (W : World) (ys : List AV) (J : Nat → AH → AH → Prop) (E : AH → AH → Prop) (y : AV) (f b1 b2 : Nat) (l : List Tm) : Prop :=
 ∀ k I τ tok, Has ys k (Sp.flatL l) → J k I τ → Cells I f b1 b2 y → ACall P W f [.lst 3 (l.map encT) tok, .ptr b1 0, .ptr b2 0] τ (Post J E (k + (Sp.flatL l).length) I)
def EV (b1 b2 : Nat) (L : AV) (n i : Int) : Env := [(1, .ptr b1 0), (2, .ptr b2 0), (7, L), (8, .int .i64 n), (9, .int .i64 i)]
theorem drop_nil (e : Env) : Env.drop e [] = e := by simp [Env.drop]
theorem noRet {kk : Nat} {I : AH} {env : Env} {τ : AH} {K : List AItem} (h : env.get 23 = .bool true) (hI : I.le τ) (hE : E I τ) :
  AW P W none 25 (atEnd [.t 4] (Post J E kk I)) (.c (.cond (.t 23) (.seq (.reg [⟨(some 4), none, .mv (.c (.bool false))⟩] []) .ret) .skip) :: K) env τ [] := by
 refine AW.cond (b := true) (by simpa [ev] using h) ?_
 refine AW.seq (AW.reg ?_)
 simp only [wpOps, wpA, ev, Env.set, drop_nil]
 refine AW.ret ?_
 simp only [atEnd, resW, AH.delAll, one1, Env.get_put_same]
 exact ⟨List.nodup_nil, fun b hb => (by cases hb), hI, .inr ⟨rfl, hE⟩⟩
theorem loop (hL : Law P W ys J E y) (hy : y.cells = [y]) {l : List Tm} (hlen : l.length < 9223372036854775808) (hk : ∀ t ∈ l, Call P W ys J E y f b1 b2 t.kids) {kk : Nat} {I : AH} (hI : Cells I f b1 b2 y) {tok : Tok} :
  ∀ (r : List Tm) (i k : Nat) (τ : AH), l = l.take i ++ r → i ≤ l.length → Has ys k (Sp.flatL r) → k + (Sp.flatL r).length = kk → J k I τ →
    AW P W none 25 (atEnd [.t 4] (Post J E kk I)) [.c (body f), .lp (body f), .blk 0, .c tail] (EV b1 b2 (.lst 3 (l.map encT) tok) l.length i) τ [] := by
 intro r
 induction r with
 | nil =>
   intro i k τ hr hi hh hkk hJ
   have hil : l.length = i := by have := congrArg List.length hr; simp at this; omega
   refine AW.seq (AW.reg ?_)
   simp only [wpOps, wpA, ev, EV, Env.get, Env.set, Env.put, binA, reduceIte, Nat.reduceEqDiff]
   refine ⟨trivial, ?_⟩
   refine AW.seq ?_
   refine AW.cond (b := false) (by simp [ev, Env.get, Env.drop, hil]) ?_
   refine AW.exit (K' := [.c tail]) rfl ?_
   refine AW.seq (AW.reg ?_)
   simp only [wpOps, wpA, ev, Env.set]
   refine AW.ret ?_
   simp only [drop_nil, atEnd, resW, AH.delAll, one1, Env.get_put_same]
   refine ⟨List.nodup_nil, fun b hb => (by cases hb), hL.le _ _ _ hJ, .inl ⟨rfl, ?_⟩⟩
   have : kk = k := by rw [← hkk]; rfl
   rw [this]; exact hJ
 | cons t r ih =>
   intro i k τ hr hi hh hkk hJ
   have hil : i < l.length := by have := congrArg List.length hr; simp at this; omega
   have hget : (l.map encT).getD i .any = encT t := by
    rw [List.getD_eq_getElem?_getD, List.getElem?_map, hr, List.getElem?_append_right (by simp; omega)]
    simp [Nat.min_eq_left (Nat.le_of_lt hil)]
   refine AW.seq (AW.reg ?_)
   simp only [wpOps, wpA, ev, EV, Env.get, Env.set, Env.put, binA, reduceIte, Nat.reduceEqDiff]
   refine ⟨trivial, ?_⟩
   refine AW.seq ?_
   refine AW.cond (b := true) (by simp [ev, Env.get, Env.drop, hil]) ?_
   refine AW.skip (AW.seq (AW.block (AW.seq (AW.reg ?_))))
   simp only [drop_nil, wpOps, wpA, ev, EV, Env.get, Env.set, Env.put, binA, reduceIte, Nat.reduceEqDiff, hget, Int.toNat_natCast]
   refine ⟨trivial, by omega, by simp [hil], ?_⟩
   rw [encT_eq]
   refine ⟨by simp [AV.cells, encN0], ?_⟩
   intro b hb
   simp only [AH.put_same, AV.cells, encN0, List.length_cons, List.length_nil, List.take, setAt]
   refine ⟨trivial, rfl, by decide, ?_⟩
   generalize hτ1 : (τ.put b _).put b _ = τ1
   have hb1 : τ1 b = some (.cells (encN0 t)) := by rw [← hτ1, AH.put_same]; rfl
   have hne : ∀ c, c ≠ b → τ1 c = τ c := fun c hc => by rw [← hτ1, AH.put_ne _ _ hc, AH.put_ne _ _ hc]
   have hle : τ.le τ1 := fun c o hc => by rw [hne c (by rintro rfl; rw [hb] at hc; cases hc)]; exact hc
   have hIτ := hL.le _ _ _ hJ
   have hIb : I b = none := AH.none_le hIτ hb
   obtain ⟨I', hI'⟩ : ∃ x, x = I.put b (.cells (encN0 t)) := ⟨_, rfl⟩
   have hII : I.le I' := fun c o hc => by rw [hI', AH.put_ne _ _ (by rintro rfl; rw [hIb] at hc; cases hc)]; exact hc
   have hI'b : I' b = some (.cells (encN0 t)) := by rw [hI', AH.put_same]
   have hIτ' : I'.le τ1 := fun c o hc => by
    by_cases hcb : c = b
    ·subst hcb; rw [hI'b] at hc; cases hc; exact hb1
    ·rw [hI', AH.put_ne _ _ hcb] at hc; exact hle _ _ (hIτ _ _ hc)
   have hJ1 : J k I' τ1 := hL.grow _ _ _ _ _ hJ hle hII hIτ' (fun c hc1 hc2 => by
    by_cases hcb : c = b
    ·subst hcb; exact hb
    ·rw [hI', AH.put_ne _ _ hcb] at hc1; exact absurd hc2 hc1)
   have e1 := hIτ' _ _ (hII _ _ hI.1)
   refine AW.seq (AW.reg ?_)
   rw [wpOps]; simp only [wpA, unA, ev, Env.get, Env.set, Env.put, reduceIte, Nat.reduceEqDiff, reduceCtorEq, List.map, e1]
   refine ⟨by simp, ?_⟩
   simp only [List.getD_cons_zero]
   rw [wpOps]; simp only [wpA, unA, ev, Env.get, Env.set, Env.put, reduceIte, Nat.reduceEqDiff, reduceCtorEq, List.map, hb1]
   refine ⟨by simp [encN0], by simp [encN0, AV.one], ?_⟩
   have hx : AV.agg (List.take 3 (List.drop 0 (encN0 t))) = encT t := by rw [encT_eq]; rfl
   rw [hx]
   rw [Sp.flatL, Sp.flatT_eq] at hh hkk
   obtain ⟨hh1, hh2⟩ := Has.cons hh
   obtain ⟨hh2, hh3⟩ := Has.app hh2
   have htm : t ∈ l := by rw [hr]; simp
   rw [wpOps]; simp only [wpA, unA, ev, Env.get, Env.set, Env.put, reduceIte, Nat.reduceEqDiff, reduceCtorEq, List.map]
   refine wpA_mono_call (hL.step _ _ _ _ hh1 hJ1) fun v τ2 ⟨hv1, hv2⟩ => ?_
   have e2 := hv1 _ _ (hII _ _ hI.2)
   have eb := hv1 _ _ hI'b
   rcases hv2 with ⟨rfl, hJ2⟩ | ⟨rfl, hE2⟩
   ·skip
    rw [wpOps]; simp only [wpA, unA, ev, Env.get, Env.set, Env.put, reduceIte, Nat.reduceEqDiff, reduceCtorEq, List.map, Bool.not_true]
    rw [wpOps]; simp only [wpA, unA, ev, Env.get, Env.set, Env.put, reduceIte, Nat.reduceEqDiff, reduceCtorEq, List.map]
    rw [wpOps]; simp only [wpA, unA, ev, Env.get, Env.set, Env.put, reduceIte, Nat.reduceEqDiff, reduceCtorEq, List.map, e2]
    refine ⟨by simp, ?_⟩
    simp only [List.getD_cons_zero]
    rw [wpOps]; simp only [wpA, unA, ev, Env.get, Env.set, Env.put, reduceIte, Nat.reduceEqDiff, reduceCtorEq, List.map]
    rw [wpOps]; simp only [wpA, unA, ev, Env.get, Env.set, Env.put, reduceIte, Nat.reduceEqDiff, reduceCtorEq, List.map, eb]
    refine ⟨by simp [encN0], ?_⟩
    have hkd : (encN0 t).getD (0 + 2) .any = .lst 3 (t.kids.map encT) .none := rfl
    rw [hkd]
    rw [wpOps]; simp only [wpA, unA, ev, Env.get, Env.set, Env.put, reduceIte, Nat.reduceEqDiff, reduceCtorEq, List.map]
    refine wpA_mono_call (show ACallV P W (AV.fn (Fn.func f) [] [AV.ptr b1 0, AV.ptr b2 0]) [AV.lst 3 (List.map encT t.kids) Tok.none] τ2 _ from hk t htm (k + 1) I' τ2 .none hh2 hJ2 ⟨hII _ _ hI.1, hII _ _ hI.2⟩) fun v τ3 ⟨hv3, hv4⟩ => ?_
    rcases hv4 with ⟨rfl, hJ3⟩ | ⟨rfl, hE3⟩
    ·skip
     rw [wpOps]; simp only [wpA, unA, ev, Env.get, Env.set, Env.put, reduceIte, Nat.reduceEqDiff, reduceCtorEq, List.map, Bool.not_true]
     rw [wpOps]; simp only [wpA, unA, ev, Env.get, Env.set, Env.put, reduceIte, Nat.reduceEqDiff, reduceCtorEq, List.map]
     rw [wpOps]
     refine AW.cond (b := false) (by simp [ev, Env.get, Env.drop]) ?_
     refine AW.skip (AW.blk (AW.reg ?_))
     simp only [drop_nil]
     rw [wpOps]; simp only [wpA, unA, ev, Env.get, Env.set, Env.put, reduceIte, Nat.reduceEqDiff, reduceCtorEq, List.map, binA]
     refine ⟨trivial, ?_⟩
     rw [wpOps]; simp only [wpA, unA, ev, Env.get, Env.set, Env.put, reduceIte, Nat.reduceEqDiff, reduceCtorEq, List.map]
     rw [wpOps]
     refine AW.lp (AW.forget (env' := EV b1 b2 (.lst 3 (l.map encT) tok) l.length ((i + 1 : Nat) : Int)) (fun u => ?_) (ih (i + 1) _ τ3 ?_ hil ?_ ?_ (hL.shr _ _ _ _ hJ3 hII)))
     ·have ew : IntKind.i64.wrap ((i : Int) + 1) = ((i + 1 : Nat) : Int) := by rw [inR_wrap (inR64 (by omega))]; omega
      simp only [drop_nil, EV, Env.get, ew]
      by_cases h1 : 1 = u
      ·simp [h1]
      by_cases h2 : 2 = u
      ·simp [h2]
      by_cases h7 : 7 = u
      ·subst h7; simp
      by_cases h8 : 8 = u
      ·subst h8; simp
      by_cases h9 : 9 = u
      ·subst h9; simp
      simp [h1, h2, h7, h8, h9]
     ·have e3 : List.take (i + 1) l = List.take i l ++ [t] := by
       rw [List.take_add_one]; congr 1
       rw [hr, List.getElem?_append_right (by simp; omega)]
       simp [Nat.min_eq_left (Nat.le_of_lt hil)]
      rw [e3]; simpa using hr
     ·exact hh3
     ·simp at hkk; omega
    ·skip
     rw [wpOps]; simp only [wpA, unA, ev, Env.get, Env.set, Env.put, reduceIte, Nat.reduceEqDiff, reduceCtorEq, List.map, Bool.not_false]
     rw [wpOps]; simp only [wpA, unA, ev, Env.get, Env.set, Env.put, reduceIte, Nat.reduceEqDiff, reduceCtorEq, List.map]
     rw [wpOps]
     exact noRet (by simp [Env.get, Env.drop]) (AH.le_trans hII hv3) (hL.shrE _ _ _ hE3 hII)
   ·skip
    rw [wpOps]; simp only [wpA, unA, ev, Env.get, Env.set, Env.put, reduceIte, Nat.reduceEqDiff, reduceCtorEq, List.map, Bool.not_false]
    rw [wpOps]; simp only [wpA, unA, ev, Env.get, Env.set, Env.put, reduceIte, Nat.reduceEqDiff, reduceCtorEq, List.map]
    rw [wpOps]; simp only [wpA, unA, ev, Env.get, Env.set, Env.put, reduceIte, Nat.reduceEqDiff, reduceCtorEq, List.map]
    rw [wpOps]; simp only [wpA, unA, ev, Env.get, Env.set, Env.put, reduceIte, Nat.reduceEqDiff, reduceCtorEq, List.map]
    rw [wpOps]; simp only [wpA, unA, ev, Env.get, Env.set, Env.put, reduceIte, Nat.reduceEqDiff, reduceCtorEq, List.map]
    rw [wpOps]; simp only [wpA, unA, ev, Env.get, Env.set, Env.put, reduceIte, Nat.reduceEqDiff, reduceCtorEq, List.map]
    rw [wpOps]; simp only [wpA, unA, ev, Env.get, Env.set, Env.put, reduceIte, Nat.reduceEqDiff, reduceCtorEq, List.map]
    rw [wpOps]; simp only [wpA, unA, ev, Env.get, Env.set, Env.put, reduceIte, Nat.reduceEqDiff, reduceCtorEq, List.map]
    rw [wpOps]
    exact noRet (by simp [Env.get, Env.drop]) (AH.le_trans hII hv1) (hL.shrE _ _ _ hE2 hII)
theorem walk_of (hc : codeOf P f = some (25, [.t 4], walk f)) (hL : Law P W ys J E y) (hy : y.cells = [y]) {l : List Tm} (hk : ∀ t ∈ l, Call P W ys J E y f b1 b2 t.kids) : Call P W ys J E y f b1 b2 l := by
 intro k I τ tok hh hJ hI
 obtain ⟨fn, c, h1, h2, h3, h4, h5, h6⟩ := codeOf_spec hc
 refine acall_of h1 h2 h3 h4 h5 (by rw [h6]; simp) ?_
 rw [h6]
 refine AW.seq (AW.reg ?_)
 rw [wpOps]; simp only [wpA, ev, argEnv, Env.get, Env.set, Env.put, reduceIte, Nat.reduceEqDiff, Nat.reduceAdd, reduceCtorEq, Nat.zero_add]
 rw [wpOps, drop_nil]
 refine AW.seq (AW.seq (AW.reg ?_))
 rw [wpOps]; simp only [wpA, ev, argEnv, Env.get, Env.set, Env.put, reduceIte, Nat.reduceEqDiff, Nat.reduceAdd, reduceCtorEq]
 rw [wpOps]; simp only [wpA, ev, argEnv, Env.get, Env.set, Env.put, reduceIte, Nat.reduceEqDiff, Nat.reduceAdd, reduceCtorEq]
 intro hlen
 rw [wpOps]; simp only [wpA, ev, argEnv, Env.get, Env.set, Env.put, reduceIte, Nat.reduceEqDiff, Nat.reduceAdd, reduceCtorEq]
 rw [wpOps, drop_nil]
 rw [List.length_map] at hlen ⊢
 refine AW.block (AW.loop (AW.forget (env' := EV b1 b2 (.lst 3 (l.map encT) tok) l.length ((0 : Nat) : Int)) (fun u => ?_) (loop hL hy hlen hk hI l 0 k τ rfl (Nat.zero_le _) hh rfl hJ)))
 simp only [EV, Env.get]
 by_cases h1 : 1 = u
 ·subst h1; simp
 by_cases h2 : 2 = u
 ·subst h2; simp
 by_cases h7 : 7 = u
 ·subst h7; simp
 by_cases h8 : 8 = u
 ·subst h8; simp
 by_cases h9 : 9 = u
 ·subst h9; simp
 simp [h1, h2, h7, h8, h9]
theorem walk_ok (hc : codeOf P f = some (25, [.t 4], walk f)) (hL : Law P W ys J E y) (hy : y.cells = [y]) (l : List Tm) : Call P W ys J E y f b1 b2 l :=
 walk_of hc hL hy fun t ht => Sp.flatT_rec (p := fun t => Call P W ys J E y f b1 b2 t.kids) (fun u hu => walk_of hc hL hy hu) t
theorem encM (l : List Tm) : @List.map (El (.nm 0)) AV (encE (.nm 0)) l = l.map encT := by
 have : (encE (Ty.nm 0) : Tm → AV) = encT := funext fun t => (encT_eq t).symm
 exact congrArg (fun f => List.map f l) this
theorem iter_ok {g : Nat} {b : Nat} {l : List Tm} {tok : Tok} {fz : AH} (hc : codeOf P f = some (25, [.t 4], walk f)) (hg : codeOf P g = some (8, [], inner f)) (hfz : fz b = some (.cells [.lst 3 (l.map encT) tok])) :
  IterOK P W fz (.fn (.func g) [] [.ptr b 0]) ((Sp.flatL l).map encT) := by
 refine ⟨g, [], [.ptr b 0], rfl, ?_⟩
 intro J E y σ hy h1 h2 h3 h4 h5 h6 h7
 have hL : Law P W ((Sp.flatL l).map encT) J E y := ⟨h1, h2, h3, h4, h5, fun k x I τ hx hJ => by
  have hu : unpk x = [x] := unpk_one (fun x hx => by obtain ⟨t, _, rfl⟩ := List.mem_map.1 hx; cases t; rfl) hx
  have := h7 k x I τ hx hJ
  rw [hu] at this; exact this⟩
 obtain ⟨fn, c, e1, e2, e3, e4, e5, e6⟩ := codeOf_spec hg
 refine acall_of e1 e2 e3 e4 e5 (by rw [e6]; simp) ?_
 rw [e6]
 have hy : y.ok = true ∧ y.cells = [y] := by obtain ⟨_, _, _, rfl⟩ := hy; exact ⟨rfl, rfl⟩
 refine AW.seq (AW.reg ?_)
 rw [wpOps]; simp only [wpA, ev, argEnv, Env.get, Env.set, Env.put, reduceIte, Nat.reduceEqDiff, Nat.reduceAdd, reduceCtorEq, List.nil_append, List.cons_append, hy]
 refine ⟨trivial, ?_⟩
 intro b1 hb1
 rw [wpOps, drop_nil]
 refine AW.seq (AW.reg ?_)
 rw [wpOps]; simp only [wpA, ev, argEnv, Env.get, Env.set, Env.put, reduceIte, Nat.reduceEqDiff, Nat.reduceAdd, reduceCtorEq]
 intro b2 hb2
 rw [wpOps, drop_nil]
 refine AW.seq (AW.reg ?_)
 rw [wpOps]; simp only [wpA, ev, argEnv, Env.get, Env.set, Env.put, reduceIte, Nat.reduceEqDiff, Nat.reduceAdd, reduceCtorEq, List.map, AH.put_same]
 rw [wpOps]; simp only [wpA, ev, argEnv, Env.get, Env.set, Env.put, reduceIte, Nat.reduceEqDiff, Nat.reduceAdd, reduceCtorEq, List.map, AH.put_same]
 refine ⟨rfl, rfl, by simp, ?_⟩
 generalize hσ3 : (AH.put (AH.put (σ.put b1 _) b2 _) b2 _) = σ3
 have hc12 : b1 ≠ b2 := by rintro rfl; rw [AH.put_same] at hb2; cases hb2
 have hs2 : σ b2 = none := by rw [AH.put_ne _ _ hc12.symm] at hb2; exact hb2
 have k1 : σ3 b1 = some (.cells [y]) := by rw [← hσ3, AH.put_ne _ _ hc12, AH.put_ne _ _ hc12, AH.put_same]
 have k2 : σ3 b2 = some (.cells [.fn (.func f) [] [.ptr b1 0, .ptr b2 0]]) := by rw [← hσ3, AH.put_same]; rfl
 have hne : ∀ c, c ≠ b1 → c ≠ b2 → σ3 c = σ c := fun c g1 g2 => by rw [← hσ3, AH.put_ne _ _ g2, AH.put_ne _ _ g2, AH.put_ne _ _ g1]
 have hle : σ.le σ3 := fun c o hc => by rw [hne c (by rintro rfl; rw [hb1] at hc; cases hc) (by rintro rfl; rw [hs2] at hc; cases hc)]; exact hc
 have hfσ := h1 _ _ _ h6
 obtain ⟨I', hI'⟩ : ∃ x, x = AH.put (AH.put fz b1 (.cells [y])) b2 (.cells [.fn (.func f) [] [.ptr b1 0, .ptr b2 0]]) := ⟨_, rfl⟩
 have j1 : I' b1 = some (.cells [y]) := by rw [hI', AH.put_ne _ _ hc12, AH.put_same]
 have j2 : I' b2 = some (.cells [.fn (.func f) [] [.ptr b1 0, .ptr b2 0]]) := by rw [hI', AH.put_same]
 have jne : ∀ c, c ≠ b1 → c ≠ b2 → I' c = fz c := fun c g1 g2 => by rw [hI', AH.put_ne _ _ g2, AH.put_ne _ _ g1]
 have hf1 : fz b1 = none := AH.none_le hfσ hb1
 have hf2 : fz b2 = none := AH.none_le hfσ hs2
 have hfI : fz.le I' := fun c o hc => by rw [jne c (by rintro rfl; rw [hf1] at hc; cases hc) (by rintro rfl; rw [hf2] at hc; cases hc)]; exact hc
 have hI3 : I'.le σ3 := fun c o hc => by
  by_cases g1 : c = b1
  ·subst g1; rw [j1] at hc; cases hc; exact k1
  by_cases g2 : c = b2
  ·subst g2; rw [j2] at hc; cases hc; exact k2
  ·rw [jne c g1 g2] at hc; exact hle _ _ (hfσ _ _ hc)
 have hJ : J 0 I' σ3 := h2 _ _ _ _ _ h6 hle hfI hI3 fun c g3 g4 => by
  by_cases g1 : c = b1
  ·subst g1; exact hb1
  by_cases g2 : c = b2
  ·subst g2; exact hs2
  ·rw [jne c g1 g2] at g3; exact absurd g4 g3
 have hb3 : σ3 b = some (.cells [.lst 3 (l.map encT) tok]) := hle _ _ (hfσ _ _ hfz)
 rw [wpOps, drop_nil]
 refine AW.reg ?_
 rw [wpOps]; simp only [wpA, ev, argEnv, Env.get, Env.set, Env.put, reduceIte, Nat.reduceEqDiff, Nat.reduceAdd, reduceCtorEq, List.map, AH.put_same, k2]
 refine ⟨by simp, ?_⟩
 simp only [List.getD_cons_zero]
 rw [wpOps]; simp only [wpA, ev, argEnv, Env.get, Env.set, Env.put, reduceIte, Nat.reduceEqDiff, Nat.reduceAdd, reduceCtorEq, List.map, AH.put_same, hb3]
 refine ⟨by simp, ?_⟩
 simp only [List.getD_cons_zero]
 rw [wpOps]; simp only [wpA, ev, argEnv, Env.get, Env.set, Env.put, reduceIte, Nat.reduceEqDiff, Nat.reduceAdd, reduceCtorEq, List.map, AH.put_same]
 refine wpA_mono_call (show ACallV P W (AV.fn (Fn.func f) [] [AV.ptr b1 0, AV.ptr b2 0]) [AV.lst 3 (List.map encT l) tok] σ3 _ from walk_ok hc hL hy.2 l 0 I' σ3 tok (fun i x hx => ?_) hJ ⟨j1, j2⟩) fun v τ ⟨g1, g2⟩ => ?_
 ·rw [List.getElem?_map, Nat.zero_add, hx]; rfl
 ·rw [wpOps, drop_nil]
  refine AW.fin ?_
  simp only [atEnd, resW, AH.delAll]
  refine ⟨List.nodup_nil, fun b hb => (by cases hb), ?_⟩
  rcases g2 with ⟨_, g2⟩ | ⟨_, g2⟩
  ·left; rw [List.length_map]; rw [Nat.zero_add] at g2; exact h3 _ _ _ _ g2 hfI
  ·right; exact h5 _ _ _ g2 hfI
def C : Ctr where
 pv _ := none
 run vs st K := match asTs [.lst (.nm 0)] vs with
  | some l => K (.iter (.nm 0) (Sp.flatL l)) st
  | none => False
theorem ok {f g h : Nat} (hf : codeOf P f = some (25, [.t 4], walk f)) (hg : codeOf P g = some (8, [], inner f)) (hh : codeOf P h = some (4, [.t 2], outer g)) : CtrOK P W h C := by
 constructor
 ·intro vs pv hpv; cases hpv
 ·intro vs st K hrun fr0 w σ ds as hH hr
  simp only [C] at hrun
  split at hrun
  case h_2 => exact hrun.elim
  rename_i l ha
  have has := asTs_rel _ _ _ _ ha hr
  obtain ⟨tok, rfl⟩ : ∃ tok, as = [.lst 3 (l.map encT) tok] := by
   match as, has with
   | [a], has =>
     have h2 : [a.bare] = [encE (.lst (.nm 0)) l] := has
     have h1 := (List.cons.inj h2).1
     have h4 : encE (.lst (.nm 0)) l = .lst 3 (l.map encT) .none := congrArg (fun x => AV.lst 3 x Tok.none) (encM l)
     rw [h4] at h1
     cases a <;> first | (cases h1; done) | skip
     rename_i sz xs tk
     injection h1 with h5 h6
     exact ⟨tk, by rw [h5, h6]⟩
   | [], has => simp [encTs] at has
   | _ :: _ :: _, has => simp [encTs] at has
  obtain ⟨fn, c, e1, e2, e3, e4, e5, e6⟩ := codeOf_spec hh
  refine acall_of e1 e2 e3 e4 e5 (by rw [e6]; simp) ?_
  rw [e6]
  refine AW.seq (AW.reg ?_)
  rw [wpOps]; simp only [wpA, ev, argEnv, Env.get, Env.set, Env.put, reduceIte, Nat.reduceEqDiff, Nat.reduceAdd, reduceCtorEq, List.map, AH.put_same]
  refine ⟨rfl, ?_⟩
  intro b hb
  rw [wpOps]; simp only [wpA, ev, argEnv, Env.get, Env.set, Env.put, reduceIte, Nat.reduceEqDiff, Nat.reduceAdd, reduceCtorEq, List.map, AH.put_same]
  rw [wpOps, drop_nil]
  refine AW.seq (AW.reg ?_)
  rw [wpOps]; simp only [wpA, ev, argEnv, Env.get, Env.set, Env.put, reduceIte, Nat.reduceEqDiff, Nat.reduceAdd, reduceCtorEq, List.map, AH.put_same]
  rw [wpOps]; simp only [wpA, ev, argEnv, Env.get, Env.set, Env.put, reduceIte, Nat.reduceEqDiff, Nat.reduceAdd, reduceCtorEq, List.map, AH.put_same]
  rw [wpOps, drop_nil]
  refine AW.ret ?_
  simp only [atEnd, resW, AH.delAll, one1, Env.get, reduceIte, Nat.reduceEqDiff]
  refine ⟨List.nodup_nil, fun b hb => (by cases hb), ?_⟩
  have hle : σ.le (σ.put b (.cells (AV.cells (.lst 3 (l.map encT) tok)))) := AH.le_put_of (AH.le_refl _) hb
  generalize hσ' : σ.put b (.cells (AV.cells (.lst 3 (l.map encT) tok))) = σ' at hle ⊢
  have hwb : w.fr b = none := AH.none_le hH.fr hb
  have hbb : σ' b = some (.cells [.lst 3 (l.map encT) tok]) := by rw [← hσ', AH.put_same]; rfl
  have hF : w.fr.le (w.fr.put b (.cells [.lst 3 (l.map encT) tok])) := AH.le_put_of (AH.le_refl _) hwb
  refine ⟨_, st, { w with fr := w.fr.put b (.cells [.lst 3 (l.map encT) tok]) }, hrun, rfl, (hH.grow hle).upfr (fun c o hc => ?_) hF (fun c hc1 hc2 => ?_), ?_, ⟨fun _ _ => rfl, fun _ _ => rfl, rfl, hF⟩, Nat.le_refl _⟩
  ·by_cases g1 : c = b
   ·subst g1; rw [AH.put_same] at hc; cases hc; exact hbb
   ·rw [AH.put_ne _ _ g1] at hc; exact hle _ _ (hH.fr _ _ hc)
  ·have g1 : c = b := by
    by_cases g1 : c = b
    ·exact g1
    ·rw [AH.put_ne _ _ g1] at hc1; exact absurd hc2 hc1
   subst g1
   refine ⟨fun x o hx e => ?_, fun i hi => ?_, fun o ho => ?_⟩
   ·obtain ⟨ao, k1, k2⟩ := hH.obj x o hx
    rw [e, hb] at k1; cases k1
   ·have hlv := hH.live i hi
    cases ht : w.tk i with
    | none => rfl
    | clip => rfl
    | own b' e lim =>
      rw [ht] at hlv
      by_cases g2 : b' = c
      ·subst g2
       have : σ b' = some (.row e lim) := hlv
       rw [hb] at this; cases this
      ·simpa [Tok.isOn] using g2
   ·have := (hH.lrec c o ho).1
    rw [hb] at this; cases this
  ·refine ⟨_, AH.le_refl _, ?_⟩
   show IterOK _ _ _ _ (@List.map (El (.nm 0)) AV (encE (.nm 0)) _)
   rw [encM]
   exact iter_ok hf hg (AH.put_same _ _ _)
end TA
end Go.AL
