/- Functions of the program: what they return, and that they do. -/
import Derived.Test.YtcalbijmeifbhaaGreatHandB
import Derived.Test.YtcalbijmeifbhaaGreatEvalC
set_option linter.unusedVariables false
set_option linter.unusedSimpArgs false
namespace Sp
open Go.AL
def likeL (to fr : Int) : List Edg → List Edg
 | [] => []
 | e :: l => if e.src = fr then { e with src := to } :: likeL to fr l else likeL to fr l
end Sp
namespace Go.AL
open Go.RowKit
set_option linter.unusedVariables false
set_option linter.unusedSectionVars false
set_option linter.unusedSimpArgs false
namespace TK
def encG (e : Edg) : AV := .agg (encN6 e)
def bd : AC := (.seq (.reg [⟨(some 10), none, .bin .lss (.t 9) (.t 8)⟩] [])
    (.seq (.cond (.t 10) (.skip)
     (.exit 0))
     (.seq (.block 1 (.seq (.reg [⟨(some 11), none, .ia 8 (.t 7) (.t 9)⟩, ⟨(some 12), none, .ld true 8 (.t 11)⟩, ⟨(some 6), none, .new [(.int .i64 0), (.int .i64 0), (.int .i64 0), (.int .i64 0), (.str ⟨#[]⟩), (.lst 3 [] .clip), (.lst 3 [] .clip), (.int .i64 0)]⟩, ⟨none, none, .st 8 (.t 6) (.t 12)⟩] [])
       (.seq (.seq (.reg [⟨(some 13), none, .fa 0 1 (.t 6)⟩, ⟨(some 14), none, .ld false 1 (.t 13)⟩, ⟨(some 15), none, .ld false 1 (.t 2)⟩, ⟨(some 16), none, .bin .neq (.t 14) (.t 15)⟩] [])
        (.cond (.t 16) (.exit 1)
         (.skip)))
        (.seq (.reg [⟨(some 17), none, .ld false 1 (.t 3)⟩, ⟨(some 18), none, .fa 0 1 (.t 6)⟩, ⟨none, none, .st 1 (.t 18) (.t 17)⟩] [])
         (.seq (.reg [⟨(some 19), none, .mv (.t 0)⟩, ⟨(some 20), none, .ld true 8 (.t 6)⟩, ⟨(some 21), none, .call (.t 19) [(.t 20)]⟩, ⟨(some 22), none, .un .not (.t 21)⟩] [])
          (.cond (.t 22) (.ret)
           (.skip)))))))
      (.reg [⟨(some 23), none, .bin .add (.t 9) (.c (.int .i64 1))⟩, ⟨(some 9), none, .mv (.t 23)⟩] []))))
def inner : AC :=
 .seq (.reg [⟨(some 7), none, .ld false 1 (.t 1)⟩, ⟨(some 8), none, .len (.t 7)⟩, ⟨(some 9), none, .mv (.c (.int .i64 0))⟩] [])
 (.block 0 (.loop bd))
def outer (g : Nat) : AC :=
 .seq (.reg [⟨(some 3), none, .box (.t 0)⟩, ⟨(some 4), none, .box (.t 1)⟩, ⟨(some 5), none, .box (.t 2)⟩, ⟨(some 6), none, .mv (.c .nilf)⟩] [])
 (.seq (.reg [⟨(some 7), none, .mkf (.func g) [] [(.t 3), (.t 5), (.t 4)]⟩, ⟨(some 6), none, .mv (.t 7)⟩] [])
  (.ret))
theorem AW.freezeB {P : Program} {w₀ : World} {ro : Option Nat} {n : Nat} {Q : Out → Env → AH → List Nat → Prop} {K : List AItem} {env env' : Env} {σ : AH} {ds : List Nat} {b : Nat} {vs xs : List AV}
  (hb : σ b = some (.cells vs)) (hw : ∀ F us, RelL F vs us → RelL F xs us) (ho : xs.all AV.one = true)
  (hu : ∀ t, env'.get t = env.get t ∨ (env.get t = .ptr b 0 ∧ env'.get t = .elt xs))
  (h : AW P w₀ ro n Q K env' (σ.del b) ds) : AW P w₀ ro n Q K env σ ds := by
 intro todo hT F a w he hd hI
 obtain ⟨us, T, hg, hr⟩ := hI.obj _ _ hb
 have hap := hI.apart _ _ hb
 have hrr := hw F us hr
 obtain ⟨F', hF'⟩ : ∃ F' : Gh, F' = fun b' i => if b' = b then us[i]? else F b' i := ⟨_, rfl⟩
 have hle : F.le F' := fun b' i v hv => by
  have : b' ≠ b := by rintro rfl; rw [hap i] at hv; cases hv
  rw [hF']; simp [this, hv]
 have hI' : Inv w₀ F' (σ.del b) w := by
  refine ⟨fun b' i v hv => ?_, fun b' o ho' => ?_, fun b' o ho' => ?_, fun b' o ho' => ?_, hI.base⟩
  ·by_cases hbb : b' = b
   ·subst hbb
    rw [hF'] at hv; simp only [if_true] at hv
    have hi : i < us.length := by
     rcases Nat.lt_or_ge i us.length with h1 | h1
     ·exact h1
     ·rw [List.getElem?_eq_none h1] at hv; cases hv
    rw [List.getElem?_eq_getElem hi] at hv
    simp only [Option.some.injEq] at hv
    simp [World.cell?, hg, hi, hv]
   ·rw [hF'] at hv; simp only [hbb, if_false] at hv
    exact hI.imm _ _ _ hv
  ·have hbb : b' ≠ b := by rintro rfl; simp [AH.del] at ho'
   simp only [AH.del, hbb, if_false] at ho'
   exact (hI.obj _ _ ho').mono hle
  ·have hbb : b' ≠ b := by rintro rfl; simp [AH.del] at ho'
   simp only [AH.del, hbb, if_false] at ho'
   have := hI.apart _ _ ho'
   rw [hF']
   cases o <;> simp only [AObj.free, hbb, if_false] at this ⊢ <;> exact this
  ·have hbb : b' ≠ b := by rintro rfl; simp [AH.del] at ho'
   simp only [AH.del, hbb, if_false] at ho'
   exact hI.new _ _ ho'
 have he' : EnvR F' n env' a.tmps := by
  refine ⟨he.1, fun t ht => ?_⟩
  rcases hu t with h1 | ⟨h1, h2⟩
  ·rw [h1] at ht ⊢
   obtain ⟨v, g1, g2⟩ := he.2 t ht
   exact ⟨v, g1, g2.mono hle⟩
  ·obtain ⟨v, g1, g2⟩ := he.2 t (by rw [h1]; simp)
   rw [h1] at g2
   rw [h2]
   cases g2
   refine ⟨_, g1, .elt (us := us) ho (hrr.mono hle) (fun i u hu => ?_)⟩
   rw [hF']; simp only [if_true, Nat.zero_add]; exact hu
 intro b' cs hro
 obtain ⟨o, a', w', ⟨F2, env2, σ2, ds2, g1, g2⟩, g3⟩ := h todo hT F' a w he' hd hI' b' cs hro
 exact ⟨o, a', w', ⟨F2, env2, σ2, ds2, Gh.le_trans hle g1, g2⟩, g3⟩
variable {P : Program} {W : World} {J : Nat → AH → AH → Prop} {E : AH → AH → Prop} {y : AV}
def EV (y : AV) (fr to : Int) (L : AV) (n i : Int) : Env := [(0, y), (1, .elt [L]), (2, .elt [.int .i64 fr]), (3, .elt [.int .i64 to]), (7, L), (8, .int .i64 n), (9, .int .i64 i)]
structure Law (P : Program) (W : World) (ys : List AV) (J : Nat → AH → AH → Prop) (E : AH → AH → Prop) (y : AV) : Prop where
 le : ∀ k I τ, J k I τ → I.le τ
 grow : ∀ k I τ I' τ', J k I τ → τ.le τ' → I.le I' → I'.le τ' → (∀ c, I' c ≠ none → I c = none → τ c = none) → J k I' τ'
 step : ∀ k x I τ, ys[k]? = some x → J k I τ → ACallV P W y (unpk x) τ fun v τ' => I.le τ' ∧ ((v = .bool true ∧ J (k + 1) I τ') ∨ (v = .bool false ∧ E I τ'))
theorem drop_nil (e : Env) : Env.drop e [] = e := by simp [Env.drop]
theorem setAt8 (e : Edg) : setAt [AV.int .i64 0, .int .i64 0, .int .i64 0, .int .i64 0, .str ⟨#[]⟩, .lst 3 [] .clip, .lst 3 [] .clip, .int .i64 0] 0 (encN6 e) = encN6 e := rfl
theorem loop {l : List Edg} {to fr : Int} {ys : List AV} (hL : Law P W ys J E y) (hlen : l.length < 9223372036854775808) {I : AH} :
  ∀ (r : List Edg) (i k : Nat) (τ : AH), l.drop i = r → i ≤ l.length → ys.drop k = (Sp.likeL to fr r).map encG → k + (Sp.likeL to fr r).length = ys.length → J k I τ →
    AW P W none 24 (atEnd [] fun _ τ => J ys.length I τ ∨ E I τ) [.c bd, .lp bd, .blk 0] (EV y fr to (.lst 8 (l.map encG) .none) l.length i) τ [] := by
 intro r
 induction r with
 | nil =>
   intro i k τ hr hi hys hkk hJ
   have hil : ¬ i < l.length := by
    intro h
    have := congrArg List.length hr
    simp at this; omega
   refine AW.seq (AW.reg ?_)
   rw [wpOps]; simp only [wpA, ev, EV, Env.get, Env.set, Env.put, binA, reduceIte, Nat.reduceEqDiff]
   refine ⟨trivial, ?_⟩
   rw [wpOps]
   refine AW.seq ?_
   refine AW.cond (b := false) (by simp [ev, Env.get, Env.drop]; omega) ?_
   refine AW.exit (K' := []) rfl (AW.fin ?_)
   simp only [atEnd, resW, AH.delAll]
   refine ⟨List.nodup_nil, fun b hb => (by cases hb), .inl ?_⟩
   have : k = ys.length := by simpa [Sp.likeL] using hkk
   rw [← this]; exact hJ
 | cons e r ih =>
   intro i k τ hr hi hys hkk hJ
   have hil : i < l.length := by
    have := congrArg List.length hr
    simp at this; omega
   have hr' : l.drop (i + 1) = r := by
    rw [← List.drop_drop, hr]; rfl
   have hge : l[i]? = some e := by
    have := congrArg (fun x => x[0]?) hr
    simpa using this
   have hget : (l.map encG).getD i .any = encG e := by
    rw [List.getD_eq_getElem?_getD, List.getElem?_map, hge]; rfl
   -- the next round
   have next : ∀ (env : Env) (k' : Nat) (τ' : AH), env.get 0 = y → env.get 1 = .elt [.lst 8 (l.map encG) .none] → env.get 2 = .elt [.int .i64 fr] → env.get 3 = .elt [.int .i64 to] → env.get 7 = .lst 8 (l.map encG) .none → env.get 8 = .int .i64 l.length → env.get 9 = .int .i64 i →
     ys.drop k' = (Sp.likeL to fr r).map encG → k' + (Sp.likeL to fr r).length = ys.length → J k' I τ' →
     AW P W none 24 (atEnd [] fun _ τ => J ys.length I τ ∨ E I τ) [.c (.reg [⟨(some 23), none, .bin .add (.t 9) (.c (.int .i64 1))⟩, ⟨(some 9), none, .mv (.t 23)⟩] []), .lp bd, .blk 0] env τ' [] := by
    intro env k' τ' g0 g1 g2 g3 g7 g8 g9 hy hk hJ'
    refine AW.reg ?_
    rw [wpOps]; simp only [wpA, ev, g9, binA]
    refine ⟨trivial, ?_⟩
    rw [wpOps]; simp only [wpA, ev, Env.set, Env.get_put_same]
    rw [wpOps]; try rw [drop_nil]
    have ew : IntKind.i64.wrap ((i : Int) + 1) = ((i + 1 : Nat) : Int) := by rw [inR_wrap (inR64 (by omega))]; omega
    refine AW.lp (AW.forget (env' := EV y fr to (.lst 8 (l.map encG) .none) l.length ((i + 1 : Nat) : Int)) (fun u => ?_) (ih (i + 1) k' τ' hr' hil hy hk hJ'))
    simp only [EV, Env.get]
    by_cases q0 : 0 = u
    ·subst q0; rw [Env.get_put_ne _ _ (by decide), Env.get_put_ne _ _ (by decide)]; simp [g0]
    by_cases q1 : 1 = u
    ·subst q1; rw [Env.get_put_ne _ _ (by decide), Env.get_put_ne _ _ (by decide)]; simp [g1]
    by_cases q2 : 2 = u
    ·subst q2; rw [Env.get_put_ne _ _ (by decide), Env.get_put_ne _ _ (by decide)]; simp [g2]
    by_cases q3 : 3 = u
    ·subst q3; rw [Env.get_put_ne _ _ (by decide), Env.get_put_ne _ _ (by decide)]; simp [g3]
    by_cases q7 : 7 = u
    ·subst q7; rw [Env.get_put_ne _ _ (by decide), Env.get_put_ne _ _ (by decide)]; simp [g7]
    by_cases q8 : 8 = u
    ·subst q8; rw [Env.get_put_ne _ _ (by decide), Env.get_put_ne _ _ (by decide)]; simp [g8]
    by_cases q9 : 9 = u
    ·subst q9; rw [Env.get_put_same]; simp [ew]
    simp [q0, q1, q2, q3, q7, q8, q9]
   refine AW.seq (AW.reg ?_)
   rw [wpOps]; simp only [wpA, ev, EV, Env.get, Env.set, Env.put, binA, reduceIte, Nat.reduceEqDiff]
   refine ⟨trivial, ?_⟩
   rw [wpOps]
   refine AW.seq ?_
   refine AW.cond (b := true) (by simp [ev, Env.get, Env.drop]; omega) ?_
   refine AW.skip (AW.seq (AW.block (AW.seq (AW.reg ?_))))
   simp only [drop_nil]
   rw [wpOps]; simp only [wpA, unA, ev, Env.get, Env.set, Env.put, reduceIte, Nat.reduceEqDiff, reduceCtorEq, List.map]
   refine ⟨trivial, by omega, by simp; omega, ?_⟩
   simp only [Int.toNat_natCast, hget]
   rw [wpOps]; simp only [wpA, unA, ev, Env.get, Env.set, Env.put, reduceIte, Nat.reduceEqDiff, reduceCtorEq, List.map, encG, AV.cells]
   refine ⟨by simp [encN6, encN0], ?_⟩
   have hx : List.take 8 (encN6 e) = encN6 e := rfl
   rw [hx]
   rw [wpOps]; simp only [wpA, unA, ev, Env.get, Env.set, Env.put, reduceIte, Nat.reduceEqDiff, reduceCtorEq, List.map]
   intro b6 hb6
   rw [wpOps]; simp only [wpA, unA, ev, Env.get, Env.set, Env.put, reduceIte, Nat.reduceEqDiff, reduceCtorEq, List.map, AH.put_same, AV.cells]
   refine ⟨by simp [encN6, encN0], rfl, by simp [encN6, encN0], ?_⟩
   rw [setAt8]
   generalize hτ1 : (τ.put b6 _).put b6 _ = τ1
   have k1 : τ1 b6 = some (.cells (encN6 e)) := by rw [← hτ1, AH.put_same]
   have kne : ∀ c, c ≠ b6 → τ1 c = τ c := fun c hc => by rw [← hτ1, AH.put_ne _ _ hc, AH.put_ne _ _ hc]
   have kle : τ.le τ1 := fun c o hc => by rw [kne c (by rintro rfl; rw [hb6] at hc; cases hc)]; exact hc
   have hIτ := hL.le _ _ _ hJ
   have hJ1 : J k I τ1 := hL.grow _ _ _ _ _ hJ kle (AH.le_refl _) (AH.le_trans hIτ kle) (fun c hc1 hc2 => absurd hc2 hc1)
   rw [wpOps]; try rw [drop_nil]
   refine AW.seq (AW.seq (AW.reg ?_))
   rw [wpOps]; simp only [wpA, unA, ev, Env.get, Env.set, Env.put, reduceIte, Nat.reduceEqDiff, reduceCtorEq, List.map]
   rw [wpOps]; simp only [wpA, unA, ev, Env.get, Env.set, Env.put, reduceIte, Nat.reduceEqDiff, reduceCtorEq, List.map, k1]
   refine ⟨by simp [encN6, encN0], ?_⟩
   rw [wpOps]; simp only [wpA, unA, ev, Env.get, Env.set, Env.put, reduceIte, Nat.reduceEqDiff, reduceCtorEq, List.map]
   refine ⟨by simp, ?_⟩
   have hd0 : (encN6 e).getD (0 + 0) .any = .int .i64 e.src := rfl
   simp only [List.headD_cons, hd0]
   rw [wpOps]; simp only [wpA, unA, ev, Env.get, Env.set, Env.put, reduceIte, Nat.reduceEqDiff, reduceCtorEq, List.map, binA]
   refine ⟨trivial, ?_⟩
   rw [wpOps]; try rw [drop_nil]
   by_cases hc : e.src = fr
   ·refine AW.cond (b := false) (by simp [ev, Env.get, hc]) ?_
    refine AW.skip (AW.seq (AW.reg ?_))
    rw [wpOps]; simp only [wpA, unA, ev, Env.get, Env.set, Env.put, reduceIte, Nat.reduceEqDiff, reduceCtorEq, List.map]
    refine ⟨by simp, ?_⟩
    simp only [List.headD_cons]
    rw [wpOps]; simp only [wpA, unA, ev, Env.get, Env.set, Env.put, reduceIte, Nat.reduceEqDiff, reduceCtorEq, List.map]
    rw [wpOps]; simp only [wpA, unA, ev, Env.get, Env.set, Env.put, reduceIte, Nat.reduceEqDiff, reduceCtorEq, List.map, k1, AV.cells]
    refine ⟨rfl, rfl, by simp [encN6, encN0], ?_⟩
    have hs : setAt (encN6 e) (0 + 0) [AV.int .i64 to] = encN6 { e with src := to } := rfl
    rw [hs]
    generalize hτ2 : τ1.put b6 _ = τ2
    have m1 : τ2 b6 = some (.cells (encN6 { e with src := to })) := by rw [← hτ2, AH.put_same]
    have mle : τ.le τ2 := fun c o hc => by
     have hcb : c ≠ b6 := by rintro rfl; rw [hb6] at hc; cases hc
     rw [← hτ2, AH.put_ne _ _ hcb, kne c hcb]; exact hc
    have hJ2 : J k I τ2 := hL.grow _ _ _ _ _ hJ mle (AH.le_refl _) (AH.le_trans hIτ mle) (fun c hc1 hc2 => absurd hc2 hc1)
    rw [wpOps]; try rw [drop_nil]
    refine AW.seq (AW.reg ?_)
    rw [wpOps]; simp only [wpA, unA, ev, Env.get, Env.set, Env.put, reduceIte, Nat.reduceEqDiff, reduceCtorEq, List.map]
    rw [wpOps]; simp only [wpA, unA, ev, Env.get, Env.set, Env.put, reduceIte, Nat.reduceEqDiff, reduceCtorEq, List.map, m1]
    refine ⟨by simp [encN6, encN0], rfl, ?_⟩
    have hx2 : List.take 8 (List.drop 0 (encN6 { e with src := to })) = encN6 { e with src := to } := rfl
    rw [hx2]
    rw [Sp.likeL, if_pos hc] at hys hkk
    have hysk : ys[k]? = some (encG { e with src := to }) := by
     have := congrArg (fun x => x[0]?) hys
     simpa using this
    have hys' : ys.drop (k + 1) = (Sp.likeL to fr r).map encG := by
     rw [← List.drop_drop, hys]; rfl
    rw [wpOps]; simp only [wpA, unA, ev, Env.get, Env.set, Env.put, reduceIte, Nat.reduceEqDiff, reduceCtorEq, List.map]
    refine wpA_mono_call (hL.step _ _ _ _ hysk hJ2) fun v τ3 ⟨hv1, hv2⟩ => ?_
    rcases hv2 with ⟨rfl, hJ3⟩ | ⟨rfl, hE3⟩
    ·skip
     rw [wpOps]; simp only [wpA, unA, ev, Env.get, Env.set, Env.put, reduceIte, Nat.reduceEqDiff, reduceCtorEq, List.map, Bool.not_true]
     rw [wpOps]; try rw [drop_nil]
     refine AW.cond (b := false) (by simp [ev, Env.get]) ?_
     refine AW.skip (AW.blk ?_)
     exact next _ (k + 1) τ3 rfl rfl rfl rfl rfl rfl rfl hys' (by simp at hkk; omega) hJ3
    ·skip
     rw [wpOps]; simp only [wpA, unA, ev, Env.get, Env.set, Env.put, reduceIte, Nat.reduceEqDiff, reduceCtorEq, List.map, Bool.not_false]
     rw [wpOps]; try rw [drop_nil]
     refine AW.cond (b := true) (by simp [ev, Env.get]) ?_
     refine AW.ret ?_
     simp only [atEnd, resW, AH.delAll]
     exact ⟨List.nodup_nil, fun b hb => (by cases hb), .inr hE3⟩
   ·refine AW.cond (b := true) (by simp [ev, Env.get, hc]) ?_
    refine AW.exit (K' := [.c (.reg [⟨(some 23), none, .bin .add (.t 9) (.c (.int .i64 1))⟩, ⟨(some 9), none, .mv (.t 23)⟩] []), .lp bd, .blk 0]) rfl ?_
    rw [Sp.likeL, if_neg hc] at hys hkk
    exact next _ k τ1 rfl rfl rfl rfl rfl rfl rfl hys hkk hJ1
def likeF (g : Nat) (l : List Edg) (to fr : Int) : AV := .fn (.func g) [] [.elt [.lst 8 (l.map encG) .none], .elt [.int .i64 fr], .elt [.int .i64 to]]
theorem iter_ok {g : Nat} {l : List Edg} {to fr : Int} {fz : AH} (hg : codeOf P g = some (24, [], inner)) :
  IterOK P W fz (likeF g l to fr) ((Sp.likeL to fr l).map encG) := by
 refine ⟨g, [], _, rfl, ?_⟩
 intro J E y σ hy q1 q2 q3 q4 q5 q6 q7
 have hL : Law P W ((Sp.likeL to fr l).map encG) J E y := ⟨q1, q2, q7⟩
 obtain ⟨fn, c, e1, e2, e3, e4, e5, e6⟩ := codeOf_spec hg
 refine acall_of e1 e2 e3 e4 e5 (by rw [e6]; simp) ?_
 rw [e6]
 refine AW.seq (AW.reg ?_)
 rw [wpOps]; simp only [wpA, ev, argEnv, Env.get, Env.set, Env.put, reduceIte, Nat.reduceEqDiff, Nat.reduceAdd, reduceCtorEq, List.nil_append, List.cons_append]
 refine ⟨by simp, ?_⟩
 simp only [List.headD_cons]
 rw [wpOps]; simp only [wpA, ev, argEnv, Env.get, Env.set, Env.put, reduceIte, Nat.reduceEqDiff, Nat.reduceAdd, reduceCtorEq]
 intro hl
 rw [wpOps]; simp only [wpA, ev, argEnv, Env.get, Env.set, Env.put, binA, reduceIte, Nat.reduceEqDiff, Nat.reduceAdd, reduceCtorEq]
 rw [wpOps, drop_nil]
 rw [List.length_map] at hl ⊢
 refine AW.block (AW.loop (AW.forget (env' := EV y fr to (.lst 8 (l.map encG) .none) l.length ((0 : Nat) : Int)) (fun u => ?_) (by
  have hloop := loop hL hl l 0 0 σ rfl (Nat.zero_le _) rfl (by simp) q6
  rw [List.length_map] at hloop
  exact hloop)))
 simp only [EV, Env.get]
 by_cases h0 : 0 = u
 ·simp [h0]
 by_cases h1 : 1 = u
 ·simp [h1]
 by_cases h2 : 2 = u
 ·simp [h2]
 by_cases h3 : 3 = u
 ·simp [h3]
 by_cases h7 : 7 = u
 ·subst h7; simp
 by_cases h8 : 8 = u
 ·subst h8; simp
 by_cases h9 : 9 = u
 ·subst h9; simp
 simp [h0, h1, h2, h3, h7, h8, h9]
def C : Ctr where
 pv vs := match asTs [.lst (.nm 6), .int .i64, .int .i64] vs with
  | some a => some ⟨none, none, .iter (.nm 6) (Sp.likeL a.2.1 a.2.2 a.1)⟩
  | none => none
 run vs st K := match asTs [.lst (.nm 6), .int .i64, .int .i64] vs with
  | some a => K (.iter (.nm 6) (Sp.likeL a.2.1 a.2.2 a.1)) st
  | none => False
theorem call {g h : Nat} (hh : codeOf P h = some (8, [.t 6], outer g)) {l : List Edg} {to fr : Int} {as : List AV} (h0 : as.map AV.bare = [.lst 8 (l.map encG) .none, .int .i64 to, .int .i64 fr]) (σ : AH) :
  ACall P W h as σ fun a σ' => a = likeF g l to fr ∧ σ.le σ' := by
 obtain ⟨tok, rfl⟩ : ∃ tok, as = [.lst 8 (l.map encG) tok, .int .i64 to, .int .i64 fr] := by
  match as, h0 with
  | [a, b, c], h0 =>
    simp only [List.map_cons, List.map_nil, List.cons.injEq, and_true] at h0
    obtain ⟨h1, h2, h3⟩ := h0
    have hb : b = .int .i64 to := by cases b <;> simp [AV.bare] at h2 ⊢; exact h2
    have hc : c = .int .i64 fr := by cases c <;> simp [AV.bare] at h3 ⊢; exact h3
    cases a <;> first | (cases h1; done) | skip
    rename_i sz xs tk
    injection h1 with h5 h6
    exact ⟨tk, by rw [h5, h6, hb, hc]⟩
  | [], h0 => simp at h0
  | [_], h0 => simp at h0
  | [_, _], h0 => simp at h0
  | _ :: _ :: _ :: _ :: _, h0 => simp at h0
 obtain ⟨fn, c, e1, e2, e3, e4, e5, e6⟩ := codeOf_spec hh
 refine acall_of e1 e2 e3 e4 e5 (by rw [e6]; simp) ?_
 rw [e6]
 refine AW.seq (AW.reg ?_)
 rw [wpOps]; simp only [wpA, ev, argEnv, Env.get, Env.set, Env.put, reduceIte, Nat.reduceEqDiff, Nat.reduceAdd, reduceCtorEq, List.map, AV.cells]
 refine ⟨rfl, fun b1 hb1 => ?_⟩
 rw [wpOps]; simp only [wpA, ev, argEnv, Env.get, Env.set, Env.put, reduceIte, Nat.reduceEqDiff, Nat.reduceAdd, reduceCtorEq, List.map, AV.cells]
 refine ⟨rfl, fun b2 hb2 => ?_⟩
 rw [wpOps]; simp only [wpA, ev, argEnv, Env.get, Env.set, Env.put, reduceIte, Nat.reduceEqDiff, Nat.reduceAdd, reduceCtorEq, List.map, AV.cells]
 refine ⟨rfl, fun b3 hb3 => ?_⟩
 rw [wpOps]; simp only [wpA, ev, argEnv, Env.get, Env.set, Env.put, reduceIte, Nat.reduceEqDiff, Nat.reduceAdd, reduceCtorEq, List.map]
 rw [wpOps, drop_nil]
 generalize hσ' : AH.put (AH.put (σ.put b1 _) b2 _) b3 _ = σ'
 have n21 : b2 ≠ b1 := by rintro rfl; rw [AH.put_same] at hb2; cases hb2
 have n32 : b3 ≠ b2 := by rintro rfl; rw [AH.put_same] at hb3; cases hb3
 have n31 : b3 ≠ b1 := by rintro rfl; rw [AH.put_ne _ _ n21.symm, AH.put_same] at hb3; cases hb3
 have s2 : σ b2 = none := by rw [AH.put_ne _ _ n21] at hb2; exact hb2
 have s3 : σ b3 = none := by rw [AH.put_ne _ _ n32, AH.put_ne _ _ n31] at hb3; exact hb3
 have p1 : σ' b1 = some (.cells [.lst 8 (l.map encG) tok]) := by rw [← hσ', AH.put_ne _ _ n31.symm, AH.put_ne _ _ n21.symm, AH.put_same]
 have p2 : σ' b2 = some (.cells [.int .i64 to]) := by rw [← hσ', AH.put_ne _ _ n32.symm, AH.put_same]
 have p3 : σ' b3 = some (.cells [.int .i64 fr]) := by rw [← hσ', AH.put_same]
 have hle : σ.le σ' := fun c o hc => by
  rw [← hσ', AH.put_ne _ _ (by rintro rfl; rw [s3] at hc; cases hc), AH.put_ne _ _ (by rintro rfl; rw [s2] at hc; cases hc), AH.put_ne _ _ (by rintro rfl; rw [hb1] at hc; cases hc)]; exact hc
 refine AW.freezeB (xs := [.lst 8 (l.map encG) .none]) (env' := [(0, .lst 8 (l.map encG) tok), (1, .int .i64 to), (2, .int .i64 fr), (3, .elt [.lst 8 (l.map encG) .none]), (4, .ptr b2 0), (5, .ptr b3 0), (6, .nilf)]) p1 (fun F us hr => ?_) rfl (fun t => ?_) ?_
 ·cases hr with
  | cons h k => exact .cons h.bare k
 ·simp only [Env.get]
  by_cases h3 : 3 = t
  ·subst h3; simp
  ·left; simp [h3]
 have q2 : (σ'.del b1) b2 = some (.cells [.int .i64 to]) := by simp only [AH.del, n21, if_false]; exact p2
 refine AW.freezeB (xs := [.int .i64 to]) (env' := [(0, .lst 8 (l.map encG) tok), (1, .int .i64 to), (2, .int .i64 fr), (3, .elt [.lst 8 (l.map encG) .none]), (4, .elt [.int .i64 to]), (5, .ptr b3 0), (6, .nilf)]) q2 (fun F us hr => hr) rfl (fun t => ?_) ?_
 ·simp only [Env.get]
  by_cases h4 : 4 = t
  ·subst h4; simp
  ·left; simp [h4]
 have q3 : ((σ'.del b1).del b2) b3 = some (.cells [.int .i64 fr]) := by simp only [AH.del, n31, n32, if_false]; exact p3
 refine AW.freezeB (xs := [.int .i64 fr]) (env' := [(0, .lst 8 (l.map encG) tok), (1, .int .i64 to), (2, .int .i64 fr), (3, .elt [.lst 8 (l.map encG) .none]), (4, .elt [.int .i64 to]), (5, .elt [.int .i64 fr]), (6, .nilf)]) q3 (fun F us hr => hr) rfl (fun t => ?_) ?_
 ·simp only [Env.get]
  by_cases h5 : 5 = t
  ·subst h5; simp
  ·left; simp [h5]
 refine AW.seq (AW.reg ?_)
 rw [wpOps]; simp only [wpA, ev, argEnv, Env.get, Env.set, Env.put, reduceIte, Nat.reduceEqDiff, Nat.reduceAdd, reduceCtorEq, List.map, AH.put_same]
 rw [wpOps]; simp only [wpA, ev, argEnv, Env.get, Env.set, Env.put, reduceIte, Nat.reduceEqDiff, Nat.reduceAdd, reduceCtorEq, List.map, AH.put_same]
 rw [wpOps, drop_nil]
 refine AW.ret ?_
 simp only [atEnd, resW, AH.delAll, one1, Env.get, reduceIte, Nat.reduceEqDiff]
 refine ⟨List.nodup_nil, fun b hb => (by cases hb), rfl, fun c o hc => ?_⟩
 have m1 : c ≠ b1 := by rintro rfl; rw [hb1] at hc; cases hc
 have m2 : c ≠ b2 := by rintro rfl; rw [s2] at hc; cases hc
 have m3 : c ≠ b3 := by rintro rfl; rw [s3] at hc; cases hc
 simp only [AH.del, m1, m2, m3, if_false]
 exact hle _ _ hc
theorem ok {g h : Nat} (hg : codeOf P g = some (24, [], inner)) (hh : codeOf P h = some (8, [.t 6], outer g)) : CtrOK P W h C := by
 have key : ∀ (w : Wd) (nx : Nat) (l : List Edg) (to fr : Int), VRel P W w nx (.iter (.nm 6) (Sp.likeL to fr l)) (likeF g l to fr) := fun w nx l to fr => by
  simp only [VRel]
  refine ⟨fun _ => none, ?_, iter_ok hg⟩
  intro c o hc
  cases hc
 constructor
 ·intro vs pv hpv _ w nx as hr
  simp only [C] at hpv
  split at hpv
  ·rename_i a ha
   obtain ⟨l, to, fr⟩ := a
   cases hpv
   have has : as.map AV.bare = [.lst 8 ((l : List Edg).map encG) .none, .int .i64 to, .int .i64 fr] := asTs_rel _ _ _ _ ha hr
   refine ⟨trivial, likeF g l to fr, fun a ha => ?_, fun σ _ => (call hh has σ).mono fun v σ' ⟨h1, h2⟩ => ⟨.inl h1, h2⟩⟩
   have : a = likeF g l to fr := by
    rcases ha with rfl | h | ⟨vs, _, h⟩
    ·rfl
    ·cases a <;> simp only [AV.bare, likeF, reduceCtorEq] at h
     exact h
    ·simp [likeF] at h
   rw [this]
   exact key w nx l to fr
  ·cases hpv
 ·intro vs st K hrun fr0 w σ ds as hH hr
  simp only [C] at hrun
  split at hrun
  case h_2 => exact hrun.elim
  rename_i a ha
  obtain ⟨l, to, fr⟩ := a
  have has : as.map AV.bare = [.lst 8 ((l : List Edg).map encG) .none, .int .i64 to, .int .i64 fr] := asTs_rel _ _ _ _ ha hr
  refine (call hh has σ).mono fun v σ' ⟨h1, h2⟩ => ?_
  subst h1
  exact ⟨_, st, w, hrun, rfl, hH.grow h2, key w st.nx l to fr, Wd.le_refl _ _, Nat.le_refl _⟩
end TK
end Go.AL
