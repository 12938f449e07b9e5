/- Functions of the program: what they return, and that they do. -/
import Derived.Test.YtcalbijmeifbhaaGreatHandA
set_option linter.unusedVariables false
set_option linter.unusedSimpArgs false
namespace Go.AL
open Go.RowKit
set_option linter.unusedVariables false
set_option linter.unusedSectionVars false
set_option linter.unusedSimpArgs false
theorem EnvR.freeze {F F' : Gh} {n t : Nat} {env : Env} {tmps : Array Value} {x y : AV} (h : EnvR F n env tmps) (hF : F.le F') (ht : env.get t = x) (hx : x ≠ .any) (hxy : ∀ v, Rel F x v → Rel F' y v) : EnvR F' n (env.put t y) tmps := by
 refine ⟨h.1, fun u hu => ?_⟩
 by_cases hut : u = t
 ·subst hut
  rw [Env.get_put_same]
  obtain ⟨v, h1, h2⟩ := h.2 u (by rw [ht]; exact hx)
  rw [ht] at h2
  exact ⟨v, h1, hxy v h2⟩
 ·rw [Env.get_put_ne _ _ hut] at hu ⊢
  obtain ⟨v, h1, h2⟩ := h.2 u hu
  exact ⟨v, h1, h2.mono hF⟩
theorem AW.freeze {P : Program} {w₀ : World} {ro : Option Nat} {n : Nat} {Q : Out → Env → AH → List Nat → Prop} {K : List AItem} {env : Env} {σ : AH} {ds : List Nat} {t b sz len c : Nat} {vs rest xs : List AV}
  (ht : env.get t = .slc sz b 0 len c) (hb : σ b = some (.cells vs)) (hw : ∀ F us, RelL F vs us → RelL F (xs.flatMap AV.cells ++ rest) us) (ho : (xs.flatMap AV.cells).all AV.one = true)
  (hs : ∀ x ∈ xs, x.cells.length = sz) (hl : xs.length = len) (hlc : len ≤ c) (hm : c < 9223372036854775808)
  (h : AW P w₀ ro n Q K (env.put t (.lst sz xs .none)) (σ.del b) ds) : AW P w₀ ro n Q K env σ ds := by
 intro todo hT F a w he hd hI
 obtain ⟨us, T, hg, hr⟩ := hI.obj _ _ hb
 have hap := hI.apart _ _ hb
 have hrr := hw F us hr
 obtain ⟨m, hm'⟩ : ∃ m, m = (xs.flatMap AV.cells).length := ⟨_, rfl⟩
 have hr1 : RelL F (xs.flatMap AV.cells) (us.take m) := by
  have := hrr.take m
  rw [hm', List.take_left] at this; rw [hm']; exact this
 obtain ⟨F', hF'⟩ : ∃ F' : Gh, F' = fun b' i => if b' = b then (us.take m)[i]? else F b' i := ⟨_, rfl⟩
 have hle : F.le F' := fun b' i v hv => by
  have : b' ≠ b := by rintro rfl; rw [hap i] at hv; cases hv
  rw [hF']; simp [this, hv]
 have hI' : Inv w₀ F' (σ.del b) w := by
  refine ⟨fun b' i v hv => ?_, fun b' o ho' => ?_, fun b' o ho' => ?_, fun b' o ho' => ?_, hI.base⟩
  ·by_cases hbb : b' = b
   ·subst hbb
    rw [hF'] at hv; simp only [if_true] at hv
    have hv2 : us[i]? = some v := by
     rw [List.getElem?_take] at hv
     split at hv
     ·exact hv
     ·cases hv
    have hi : i < us.length := by
     rcases Nat.lt_or_ge i us.length with h1 | h1
     ·exact h1
     ·rw [List.getElem?_eq_none h1] at hv2; cases hv2
    rw [List.getElem?_eq_getElem hi] at hv2
    simp only [Option.some.injEq] at hv2
    simp [World.cell?, hg, hi, hv2]
   ·rw [hF'] at hv; simp only [hbb, if_false] at hv
    exact hI.imm _ _ _ hv
  ·have hbb : b' ≠ b := by rintro rfl; simp [AH.del] at ho'
   simp only [AH.del, hbb, if_false] at ho'
   exact (hI.obj _ _ ho').mono hle
  ·have hbb : b' ≠ b := by rintro rfl; simp [AH.del] at ho'
   simp only [AH.del, hbb, if_false] at ho'
   have := hI.apart _ _ ho'
   rw [hF']
   cases o <;> simp only [AObj.free, hbb, if_false] at this ⊢ <;> exact this
  ·have hbb : b' ≠ b := by rintro rfl; simp [AH.del] at ho'
   simp only [AH.del, hbb, if_false] at ho'
   exact hI.new _ _ ho'
 have he' : EnvR F' n (env.put t (.lst sz xs .none)) a.tmps := he.freeze hle ht (by simp) fun v hv => by
  cases hv
  refine .lst (us := us.take m) ho (hr1.mono hle) (fun i u hu => ?_) hs hlc hm trivial hl
  rw [hF']; simp only [if_true, Nat.zero_add]; exact hu
 intro b' cs hro
 obtain ⟨o, a', w', ⟨F2, env2, σ2, ds2, g1, g2⟩, g3⟩ := h todo hT F' a w he' hd hI' b' cs hro
 exact ⟨o, a', w', ⟨F2, env2, σ2, ds2, Gh.le_trans hle g1, g2⟩, g3⟩
namespace TC
def clone : AC :=
 .seq (.reg [⟨(some 2), none, .mv (.c (.lst 3 [] .clip))⟩] [])
 (.seq (.seq (.reg [⟨(some 3), none, .mv (.t 0)⟩, ⟨(some 4), none, .nilq false (.t 3)⟩] [])
  (.cond (.t 4) (.seq (.reg [⟨(some 2), none, .mv (.c (.lst 3 [] .clip))⟩] [])
   (.ret))
   (.skip)))
  (.seq (.reg [⟨(some 5), none, .bsl 3 0 (.agg [(.int .i64 0), (.str ⟨#[]⟩), (.lst 3 [] .clip)]) []⟩, ⟨(some 6), none, .mv (.t 0)⟩, ⟨(some 7), none, .app 3 (.t 5) (.t 6)⟩, ⟨(some 2), none, .mv (.t 7)⟩] [])
   (.ret)))
def body (f : Nat) : AC := (.seq (.reg [⟨(some 10), none, .bin .lss (.t 9) (.t 8)⟩] [])
    (.seq (.cond (.t 10) (.skip)
     (.exit 0))
     (.seq (.block 1 (.seq (.reg [⟨(some 11), none, .mv (.t 9)⟩, ⟨(some 4), none, .mv (.t 11)⟩] [])
       (.reg [⟨(some 12), none, .mv (.t 3)⟩, ⟨(some 13), none, .mv (.t 4)⟩, ⟨(some 14), none, .mv (.t 3)⟩, ⟨(some 15), none, .mv (.t 4)⟩, ⟨(some 16), none, .ia 3 (.t 14) (.t 15)⟩, ⟨(some 17), none, .fa 2 1 (.t 16)⟩, ⟨(some 18), none, .ld false 1 (.t 17)⟩, ⟨(some 19), none, .call (.c (.fn (.func f) [] [])) [(.t 18)]⟩, ⟨(some 20), none, .ia 3 (.t 12) (.t 13)⟩, ⟨(some 21), none, .fa 2 1 (.t 20)⟩, ⟨none, none, .st 1 (.t 21) (.t 19)⟩] [])))
      (.reg [⟨(some 22), none, .bin .add (.t 9) (.c (.int .i64 1))⟩, ⟨(some 9), none, .mv (.t 22)⟩] []))))
def tail : AC := (.seq (.reg [⟨(some 23), none, .mv (.t 3)⟩, ⟨(some 2), none, .mv (.t 23)⟩] [])
    (.ret))
def copy (f g : Nat) : AC :=
 .seq (.reg [⟨(some 2), none, .mv (.c (.lst 3 [] .clip))⟩] [])
 (.seq (.reg [⟨(some 5), none, .mv (.t 0)⟩, ⟨(some 6), none, .call (.c (.fn (.func g) [] [])) [(.t 5)]⟩, ⟨(some 3), none, .mv (.t 6)⟩] [])
  (.seq (.seq (.reg [⟨(some 7), none, .mv (.t 3)⟩, ⟨(some 8), none, .len (.t 7)⟩, ⟨(some 9), none, .mv (.c (.int .i64 0))⟩] [])
   (.block 0 (.loop (body f)))) tail))
variable {P : Program} {W : World} {f g : Nat}
def EVc (b c n i : Nat) : Env := [(3, .slc 3 b 0 n c), (7, .slc 3 b 0 n c), (8, .int .i64 n), (9, .int .i64 i)]
def ClonePost (σ : AH) (xs : List AV) (v : AV) (σ' : AH) : Prop :=
 σ.le σ' ∧ ((xs = [] ∧ ∃ t, v = .lst 3 [] t) ∨ (xs ≠ [] ∧ ∃ b c, σ b = none ∧ v = .slc 3 b 0 xs.length c ∧ xs.length ≤ c ∧ c < 9223372036854775808 ∧ σ' b = some (.cells (xs.flatMap AV.cells ++ List.replicate ((c - xs.length) * 3) .any))))
theorem clone_ok (hc : codeOf P g = some (8, [.t 2], clone)) {xs : List AV} {tok : Tok} (hlen : xs.length ≤ 8589934592) (σ : AH) : ACall P W g [.lst 3 xs tok] σ (ClonePost σ xs) := by
 obtain ⟨fn, c, e1, e2, e3, e4, e5, e6⟩ := codeOf_spec hc
 refine acall_of e1 e2 e3 e4 e5 (by rw [e6]; simp) ?_
 rw [e6]
 refine AW.seq (AW.reg ?_)
 rw [wpOps]; simp only [wpA, unA, ev, argEnv, EVc, Env.get, Env.set, Env.put, reduceIte, Nat.reduceEqDiff, Nat.reduceAdd, reduceCtorEq, List.map]
 rw [wpOps, TA.drop_nil]
 refine AW.seq (AW.seq (AW.reg ?_))
 rw [wpOps]; simp only [wpA, unA, ev, argEnv, EVc, Env.get, Env.set, Env.put, reduceIte, Nat.reduceEqDiff, Nat.reduceAdd, reduceCtorEq, List.map]
 rw [wpOps]; simp only [wpA, unA, ev, argEnv, EVc, Env.get, Env.set, Env.put, reduceIte, Nat.reduceEqDiff, Nat.reduceAdd, reduceCtorEq, List.map]
 intro nb hnb
 rw [wpOps, TA.drop_nil]
 have hb : ∀ b : Bool, (false != b) = b := by decide
 rw [hb]
 refine AW.cond (b := nb) (by simp [ev, Env.get]) ?_
 cases nb with
 | true =>
   have hx : xs = [] := by
    by_cases h : xs = []
    ·exact h
    ·have := hnb h; cases this
   refine AW.seq (AW.reg ?_)
   rw [wpOps]; simp only [wpA, unA, ev, argEnv, EVc, Env.get, Env.set, Env.put, reduceIte, Nat.reduceEqDiff, Nat.reduceAdd, reduceCtorEq, List.map]
   rw [wpOps, TA.drop_nil]
   refine AW.ret ?_
   simp only [atEnd, resW, AH.delAll, one1, Env.get, reduceIte, Nat.reduceEqDiff]
   exact ⟨List.nodup_nil, fun b hb => (by cases hb), AH.le_refl _, .inl ⟨hx, .clip, rfl⟩⟩
 | false =>
   refine AW.skip (AW.seq (AW.reg ?_))
   rw [wpOps]; simp only [wpA, unA, ev, argEnv, EVc, Env.get, Env.set, Env.put, reduceIte, Nat.reduceEqDiff, Nat.reduceAdd, reduceCtorEq, List.map, putElems, List.replicate]
   refine ⟨rfl, rfl, ?_⟩
   rw [wpOps]; simp only [wpA, unA, ev, argEnv, EVc, Env.get, Env.set, Env.put, reduceIte, Nat.reduceEqDiff, Nat.reduceAdd, reduceCtorEq, List.map]
   rw [wpOps]; simp only [wpA, unA, ev, argEnv, EVc, Env.get, Env.set, Env.put, reduceIte, Nat.reduceEqDiff, Nat.reduceAdd, reduceCtorEq, List.map]
   refine ⟨trivial, trivial, trivial, by simpa using hlen, ?_⟩
   by_cases hx : xs = []
   ·left
    intro t' σ' ha
    rw [wpOps]; simp only [wpA, unA, ev, argEnv, EVc, Env.get, Env.set, Env.put, reduceIte, Nat.reduceEqDiff, Nat.reduceAdd, reduceCtorEq, List.map]
    rw [wpOps, TA.drop_nil]
    refine AW.ret ?_
    simp only [atEnd, resW, AH.delAll, one1, Env.get, reduceIte, Nat.reduceEqDiff]
    refine ⟨List.nodup_nil, fun b hb => (by cases hb), fun c o hc => ha.kept c o hc rfl, .inl ⟨hx, t', by rw [hx]; rfl⟩⟩
   ·right
    refine ⟨trivial, trivial, hx, fun b c hb hc hc2 => ?_⟩
    rw [wpOps]; simp only [wpA, unA, ev, argEnv, EVc, Env.get, Env.set, Env.put, reduceIte, Nat.reduceEqDiff, Nat.reduceAdd, reduceCtorEq, List.map]
    rw [wpOps, TA.drop_nil]
    refine AW.ret ?_
    simp only [atEnd, resW, AH.delAll, one1, Env.get, reduceIte, Nat.reduceEqDiff]
    exact ⟨List.nodup_nil, fun b hb => (by cases hb), AH.le_put _ hb, .inr ⟨hx, b, c, hb, rfl, hc, hc2, AH.put_same _ _ _⟩⟩
def Post (σ : AH) (l : List Tm) (v : AV) (σ' : AH) : Prop := (∃ t, v = .lst 3 (l.map encT) t) ∧ σ.le σ'
def Copied (P : Program) (W : World) (f : Nat) (l : List Tm) : Prop :=
 ∀ σ tok, (Sp.flatL l).length ≤ 8589934592 → ACall P W f [.lst 3 (l.map encT) tok] σ (Post σ l)
theorem flat_len : ∀ l : List Tm, l.length ≤ (Sp.flatL l).length
 | [] => Nat.le_refl _
 | t :: l => by
   have := flat_len l
   simp only [Sp.flatL, Sp.flatT_eq, List.length_append, List.length_cons]; omega
theorem flat_mem {t : Tm} : ∀ {l : List Tm}, t ∈ l → (Sp.flatL t.kids).length ≤ (Sp.flatL l).length
 | u :: l, h => by
   simp only [Sp.flatL, Sp.flatT_eq, List.length_append, List.length_cons]
   rcases List.mem_cons.1 h with rfl | h
   ·omega
   ·have := flat_mem h; omega
theorem cells_at : ∀ (l : List Tm) (i : Nat) (t : Tm), l[i]? = some t → (l.flatMap encN0)[i * 3 + 2]? = some (.lst 3 (t.kids.map encT) .none)
 | [], i, t, h => by cases h
 | u :: l, 0, t, h => by cases h; rfl
 | u :: l, i + 1, t, h => by
   have := cells_at l i t (by simpa using h)
   rw [List.flatMap_cons, List.getElem?_append_right (by simp [encN0]; omega)]
   rw [← this]; congr 1; simp [encN0]; omega
theorem cells_len (l : List Tm) : (l.flatMap encN0).length = l.length * 3 := by
 induction l with
 | nil => rfl
 | cons t l ih => rw [List.flatMap_cons, List.length_append, ih]; simp [encN0]; omega
theorem cells_enc (l : List Tm) : (l.map encT).flatMap AV.cells = l.flatMap encN0 := by
 induction l with
 | nil => rfl
 | cons t l ih => rw [List.map_cons, List.flatMap_cons, List.flatMap_cons, ih, encT_eq]; rfl
theorem cells_one (l : List Tm) : (l.flatMap encN0).all AV.one = true := by
 induction l with
 | nil => rfl
 | cons t l ih => rw [List.flatMap_cons, List.all_append, ih]; rfl
theorem cells_bare (l : List Tm) : (l.flatMap encN0).map AV.bare1 = l.flatMap encN0 := by
 induction l with
 | nil => rfl
 | cons t l ih => rw [List.flatMap_cons, List.map_append, ih]; rfl
theorem any_bare (k : Nat) : (List.replicate k AV.any).map AV.bare1 = List.replicate k .any := by rw [List.map_replicate]; rfl
theorem loop {l : List Tm} {b c k : Nat} {σ : AH} (hσb : σ b = none) (hlc : l.length ≤ c) (hc : c < 9223372036854775808) (hk : ∀ t ∈ l, Copied P W f t.kids) (hfl : (Sp.flatL l).length ≤ 8589934592) :
  ∀ (r i : Nat) (τ : AH) (vs : List AV), i + r = l.length → σ.le τ → τ b = some (.cells (vs ++ List.replicate k .any)) → vs.map AV.bare1 = l.flatMap encN0 →
    AW P W none 24 (atEnd [.t 2] (Post σ l)) [.c (body f), .lp (body f), .blk 0, .c tail] (EVc b c l.length i) τ [] := by
 intro r
 induction r with
 | zero =>
   intro i τ vs hir hστ hτb hvs
   refine AW.seq (AW.reg ?_)
   rw [wpOps]; simp only [wpA, unA, ev, argEnv, EVc, Env.get, Env.set, Env.put, reduceIte, Nat.reduceEqDiff, Nat.reduceAdd, reduceCtorEq, List.map, binA]
   refine ⟨trivial, ?_⟩
   rw [wpOps, TA.drop_nil]
   refine AW.seq ?_
   refine AW.cond (b := false) (by simp [ev, Env.get]; omega) ?_
   refine AW.exit (K' := [.c tail]) rfl ?_
   refine AW.freeze (t := 3) (xs := l.map encT) (rest := List.replicate k .any) rfl hτb (fun F us hr => ?_) (by rw [cells_enc]; exact cells_one l) (fun x hx => ?_) (by simp) hlc hc ?_
   ·rw [cells_enc, ← hvs, ← any_bare k, ← List.map_append]
    exact hr.bare1
   ·obtain ⟨t, _, rfl⟩ := List.mem_map.1 hx
    rw [encT_eq]; rfl
   ·refine AW.seq (AW.reg ?_)
    rw [wpOps]; simp only [wpA, unA, ev, argEnv, EVc, Env.get, Env.set, Env.put, reduceIte, Nat.reduceEqDiff, Nat.reduceAdd, reduceCtorEq, List.map]
    rw [wpOps]; simp only [wpA, unA, ev, argEnv, EVc, Env.get, Env.set, Env.put, reduceIte, Nat.reduceEqDiff, Nat.reduceAdd, reduceCtorEq, List.map]
    rw [wpOps, TA.drop_nil]
    refine AW.ret ?_
    simp only [atEnd, resW, AH.delAll, one1, Env.get, reduceIte, Nat.reduceEqDiff]
    refine ⟨List.nodup_nil, fun b hb => (by cases hb), ⟨_, rfl⟩, fun x o hx => ?_⟩
    have : x ≠ b := by rintro rfl; rw [hσb] at hx; cases hx
    simp only [AH.del, this, if_false]; exact hστ _ _ hx
 | succ r ih =>
   intro i τ vs hir hστ hτb hvs
   have hi : i < l.length := by omega
   obtain ⟨t, ht⟩ : ∃ t, l[i]? = some t := ⟨_, List.getElem?_eq_getElem hi⟩
   have htm : t ∈ l := List.mem_of_getElem? ht
   have hvl : vs.length = l.length * 3 := by rw [← cells_len, ← hvs, List.length_map]
   have hat := cells_at l i t ht
   rw [← hvs, List.getElem?_map] at hat
   obtain ⟨v0, hv0, hv1⟩ := Option.map_eq_some_iff.1 hat
   obtain ⟨tok, rfl⟩ : ∃ tok, v0 = .lst 3 (t.kids.map encT) tok := by
    cases v0 <;> first | (cases hv1; done) | skip
    rename_i sz xs tk
    injection hv1 with h5 h6
    exact ⟨tk, by rw [h5, h6]⟩
   have hlt : i * 3 + 2 < vs.length := by omega
   have hgd : (vs ++ List.replicate k AV.any).getD (0 + i * 3 + 2) .any = .lst 3 (t.kids.map encT) tok := by
    rw [Nat.zero_add, List.getD_eq_getElem?_getD, List.getElem?_append_left hlt, hv0]; rfl
   refine AW.seq (AW.reg ?_)
   rw [wpOps]; simp only [wpA, unA, ev, argEnv, EVc, Env.get, Env.set, Env.put, reduceIte, Nat.reduceEqDiff, Nat.reduceAdd, reduceCtorEq, List.map, binA]
   refine ⟨trivial, ?_⟩
   rw [wpOps, TA.drop_nil]
   refine AW.seq ?_
   refine AW.cond (b := true) (by simp [ev, Env.get, hi]) ?_
   refine AW.skip (AW.seq (AW.block (AW.seq (AW.reg ?_))))
   rw [wpOps]; simp only [wpA, unA, ev, argEnv, EVc, Env.get, Env.set, Env.put, reduceIte, Nat.reduceEqDiff, Nat.reduceAdd, reduceCtorEq, List.map]
   rw [wpOps]; simp only [wpA, unA, ev, argEnv, EVc, Env.get, Env.set, Env.put, reduceIte, Nat.reduceEqDiff, Nat.reduceAdd, reduceCtorEq, List.map]
   rw [wpOps, TA.drop_nil]
   refine AW.reg ?_
   rw [wpOps]; simp only [wpA, unA, ev, argEnv, EVc, Env.get, Env.set, Env.put, reduceIte, Nat.reduceEqDiff, Nat.reduceAdd, reduceCtorEq, List.map]
   rw [wpOps]; simp only [wpA, unA, ev, argEnv, EVc, Env.get, Env.set, Env.put, reduceIte, Nat.reduceEqDiff, Nat.reduceAdd, reduceCtorEq, List.map]
   rw [wpOps]; simp only [wpA, unA, ev, argEnv, EVc, Env.get, Env.set, Env.put, reduceIte, Nat.reduceEqDiff, Nat.reduceAdd, reduceCtorEq, List.map]
   rw [wpOps]; simp only [wpA, unA, ev, argEnv, EVc, Env.get, Env.set, Env.put, reduceIte, Nat.reduceEqDiff, Nat.reduceAdd, reduceCtorEq, List.map]
   rw [wpOps]; simp only [wpA, unA, ev, argEnv, EVc, Env.get, Env.set, Env.put, reduceIte, Nat.reduceEqDiff, Nat.reduceAdd, reduceCtorEq, List.map]
   refine ⟨trivial, by omega, by omega, ?_⟩
   simp only [Int.toNat_natCast]
   rw [wpOps]; simp only [wpA, unA, ev, argEnv, EVc, Env.get, Env.set, Env.put, reduceIte, Nat.reduceEqDiff, Nat.reduceAdd, reduceCtorEq, List.map]
   rw [wpOps]; simp only [wpA, unA, ev, argEnv, EVc, Env.get, Env.set, Env.put, reduceIte, Nat.reduceEqDiff, Nat.reduceAdd, reduceCtorEq, List.map, hτb]
   refine ⟨by simp; omega, ?_⟩
   rw [hgd]
   rw [wpOps]; simp only [wpA, unA, ev, argEnv, EVc, Env.get, Env.set, Env.put, reduceIte, Nat.reduceEqDiff, Nat.reduceAdd, reduceCtorEq, List.map]
   refine wpA_mono_call (show ACallV P W (AV.fn (Fn.func f) [] []) [AV.lst 3 (List.map encT t.kids) tok] τ _ from (by
    have := hk t htm τ tok (Nat.le_trans (flat_mem htm) hfl)
    simpa [ACallV] using this)) fun v τ2 hv => ?_
   obtain ⟨⟨tok2, rfl⟩, hle2⟩ := hv
   have hb2 := hle2 _ _ hτb
   rw [wpOps]; simp only [wpA, unA, ev, argEnv, EVc, Env.get, Env.set, Env.put, reduceIte, Nat.reduceEqDiff, Nat.reduceAdd, reduceCtorEq, List.map]
   refine ⟨trivial, by omega, by omega, ?_⟩
   simp only [Int.toNat_natCast]
   rw [wpOps]; simp only [wpA, unA, ev, argEnv, EVc, Env.get, Env.set, Env.put, reduceIte, Nat.reduceEqDiff, Nat.reduceAdd, reduceCtorEq, List.map]
   rw [wpOps]; simp only [wpA, unA, ev, argEnv, EVc, Env.get, Env.set, Env.put, reduceIte, Nat.reduceEqDiff, Nat.reduceAdd, reduceCtorEq, List.map, hb2]
   refine ⟨rfl, rfl, by simp; omega, ?_⟩
   rw [wpOps, TA.drop_nil]
   refine AW.blk (AW.reg ?_)
   rw [wpOps]; simp only [wpA, unA, ev, argEnv, EVc, Env.get, Env.set, Env.put, reduceIte, Nat.reduceEqDiff, Nat.reduceAdd, reduceCtorEq, List.map, binA]
   refine ⟨trivial, ?_⟩
   rw [wpOps]; simp only [wpA, unA, ev, argEnv, EVc, Env.get, Env.set, Env.put, reduceIte, Nat.reduceEqDiff, Nat.reduceAdd, reduceCtorEq, List.map]
   rw [wpOps, TA.drop_nil]
   have hset : setAt (vs ++ List.replicate k AV.any) (0 + i * 3 + 2) (AV.lst 3 (List.map encT t.kids) tok2).cells = vs.set (i * 3 + 2) (AV.lst 3 (List.map encT t.kids) tok2) ++ List.replicate k AV.any := by
    rw [Nat.zero_add]; simp only [AV.cells, setAt]
    rw [List.set_append_left _ _ hlt]
   refine AW.lp (AW.forget (env' := EVc b c l.length (i + 1)) (fun u => ?_) (ih (i + 1) _ (vs.set (i * 3 + 2) (.lst 3 (t.kids.map encT) tok2)) (by omega) ?_ (by rw [AH.put_same, hset]) ?_))
   ·have ew : IntKind.i64.wrap ((i : Int) + 1) = ((i + 1 : Nat) : Int) := by rw [inR_wrap (inR64 (by omega))]; omega
    simp only [TA.drop_nil, EVc, Env.get, ew]
    by_cases h3 : 3 = u
    ·subst h3; simp
    by_cases h7 : 7 = u
    ·subst h7; simp
    by_cases h8 : 8 = u
    ·subst h8; simp
    by_cases h9 : 9 = u
    ·subst h9; simp
    simp [h3, h7, h8, h9]
   ·intro x o hx
    have : x ≠ b := by rintro rfl; rw [hσb] at hx; cases hx
    rw [AH.put_ne _ _ this]; exact hle2 _ _ (hστ _ _ hx)
   ·rw [List.map_set, ← hvs]
    apply List.ext_getElem?
    intro j
    rw [List.getElem?_set]
    split
    ·rename_i hj
     subst hj
     rw [hvs, cells_at l i t ht]
     rw [if_pos (by rw [← hvs, List.length_map]; exact hlt)]
     rfl
    ·rfl
theorem copy_of (hf : codeOf P f = some (24, [.t 2], copy f g)) (hg : codeOf P g = some (8, [.t 2], clone)) {l : List Tm} (hk : ∀ t ∈ l, Copied P W f t.kids) : Copied P W f l := by
 intro σ tok hfl
 obtain ⟨fn, c, e1, e2, e3, e4, e5, e6⟩ := codeOf_spec hf
 refine acall_of e1 e2 e3 e4 e5 (by rw [e6]; simp) ?_
 rw [e6]
 refine AW.seq (AW.reg ?_)
 rw [wpOps]; simp only [wpA, unA, ev, argEnv, EVc, Env.get, Env.set, Env.put, reduceIte, Nat.reduceEqDiff, Nat.reduceAdd, reduceCtorEq, List.map]
 rw [wpOps, TA.drop_nil]
 refine AW.seq (AW.reg ?_)
 rw [wpOps]; simp only [wpA, unA, ev, argEnv, EVc, Env.get, Env.set, Env.put, reduceIte, Nat.reduceEqDiff, Nat.reduceAdd, reduceCtorEq, List.map]
 rw [wpOps]; simp only [wpA, unA, ev, argEnv, EVc, Env.get, Env.set, Env.put, reduceIte, Nat.reduceEqDiff, Nat.reduceAdd, reduceCtorEq, List.map]
 have hlen : (l.map encT).length ≤ 8589934592 := by rw [List.length_map]; exact Nat.le_trans (flat_len l) hfl
 refine wpA_mono_call (show ACallV P W (AV.fn (Fn.func g) [] []) [AV.lst 3 (List.map encT l) tok] σ _ from (by
   have := clone_ok (W := W) hg (tok := tok) hlen σ
   simpa [ACallV] using this)) fun v τ hv => ?_
 obtain ⟨hle, hv⟩ := hv
 rcases hv with ⟨hl, t, rfl⟩ | ⟨hl, b, c, hb, rfl, hlc, hc, hτ⟩
 ·have hl0 : l = [] := by simpa using hl
  subst hl0
  rw [wpOps]; simp only [wpA, unA, ev, argEnv, EVc, Env.get, Env.set, Env.put, reduceIte, Nat.reduceEqDiff, Nat.reduceAdd, reduceCtorEq, List.map]
  rw [wpOps, TA.drop_nil]
  refine AW.seq (AW.seq (AW.reg ?_))
  rw [wpOps]; simp only [wpA, unA, ev, argEnv, EVc, Env.get, Env.set, Env.put, reduceIte, Nat.reduceEqDiff, Nat.reduceAdd, reduceCtorEq, List.map]
  rw [wpOps]; simp only [wpA, unA, ev, argEnv, EVc, Env.get, Env.set, Env.put, reduceIte, Nat.reduceEqDiff, Nat.reduceAdd, reduceCtorEq, List.map]
  intro _
  rw [wpOps]; simp only [wpA, unA, ev, argEnv, EVc, Env.get, Env.set, Env.put, reduceIte, Nat.reduceEqDiff, Nat.reduceAdd, reduceCtorEq, List.map]
  rw [wpOps, TA.drop_nil]
  refine AW.block (AW.loop (AW.seq (AW.reg ?_)))
  rw [wpOps]; simp only [wpA, unA, ev, argEnv, EVc, Env.get, Env.set, Env.put, reduceIte, Nat.reduceEqDiff, Nat.reduceAdd, reduceCtorEq, List.map, binA]
  refine ⟨trivial, ?_⟩
  rw [wpOps, TA.drop_nil]
  refine AW.seq ?_
  refine AW.cond (b := false) (by simp [ev, Env.get]) ?_
  refine AW.exit (K' := [.c tail]) rfl ?_
  refine AW.seq (AW.reg ?_)
  rw [wpOps]; simp only [wpA, unA, ev, argEnv, EVc, Env.get, Env.set, Env.put, reduceIte, Nat.reduceEqDiff, Nat.reduceAdd, reduceCtorEq, List.map]
  rw [wpOps]; simp only [wpA, unA, ev, argEnv, EVc, Env.get, Env.set, Env.put, reduceIte, Nat.reduceEqDiff, Nat.reduceAdd, reduceCtorEq, List.map]
  rw [wpOps, TA.drop_nil]
  refine AW.ret ?_
  simp only [atEnd, resW, AH.delAll, one1, Env.get, reduceIte, Nat.reduceEqDiff]
  exact ⟨List.nodup_nil, fun b hb => (by cases hb), ⟨_, rfl⟩, hle⟩
 ·rw [List.length_map] at hlc hτ ⊢
  rw [wpOps]; simp only [wpA, unA, ev, argEnv, EVc, Env.get, Env.set, Env.put, reduceIte, Nat.reduceEqDiff, Nat.reduceAdd, reduceCtorEq, List.map]
  rw [wpOps, TA.drop_nil]
  refine AW.seq (AW.seq (AW.reg ?_))
  rw [wpOps]; simp only [wpA, unA, ev, argEnv, EVc, Env.get, Env.set, Env.put, reduceIte, Nat.reduceEqDiff, Nat.reduceAdd, reduceCtorEq, List.map]
  rw [wpOps]; simp only [wpA, unA, ev, argEnv, EVc, Env.get, Env.set, Env.put, reduceIte, Nat.reduceEqDiff, Nat.reduceAdd, reduceCtorEq, List.map]
  rw [wpOps]; simp only [wpA, unA, ev, argEnv, EVc, Env.get, Env.set, Env.put, reduceIte, Nat.reduceEqDiff, Nat.reduceAdd, reduceCtorEq, List.map]
  rw [wpOps, TA.drop_nil]
  rw [cells_enc] at hτ
  refine AW.block (AW.loop (AW.forget (env' := EVc b c l.length 0) (fun u => ?_) (loop hb hlc hc hk hfl l.length 0 τ (l.flatMap encN0) (by omega) hle hτ ?_)))
  ·simp only [EVc, Env.get]
   by_cases h3 : 3 = u
   ·subst h3; simp
   by_cases h7 : 7 = u
   ·subst h7; simp
   by_cases h8 : 8 = u
   ·subst h8; simp
   by_cases h9 : 9 = u
   ·subst h9; simp
   simp [h3, h7, h8, h9]
  ·exact cells_bare l
theorem copy_ok (hf : codeOf P f = some (24, [.t 2], copy f g)) (hg : codeOf P g = some (8, [.t 2], clone)) (l : List Tm) : Copied P W f l :=
 copy_of hf hg fun t ht => Sp.flatT_rec (p := fun t => Copied P W f t.kids) (fun u hu => copy_of hf hg hu) t
theorem asLst {l : List Tm} {as : List AV} (has : as.map AV.bare = encTs [.lst (.nm 0)] l) : ∃ tok, as = [.lst 3 (l.map encT) tok] := by
 match as, has with
 | [a], has =>
   have h2 : [a.bare] = [encE (.lst (.nm 0)) l] := has
   have h1 := (List.cons.inj h2).1
   have h4 : encE (.lst (.nm 0)) l = .lst 3 (l.map encT) .none := congrArg (fun x => AV.lst 3 x Tok.none) (TA.encM l)
   rw [h4] at h1
   cases a <;> first | (cases h1; done) | skip
   rename_i sz xs tk
   injection h1 with h5 h6
   exact ⟨tk, by rw [h5, h6]⟩
 | [], has => simp [encTs] at has
 | _ :: _ :: _, has => simp [encTs] at has
theorem ok (hf : codeOf P f = some (24, [.t 2], copy f g)) (hg : codeOf P g = some (8, [.t 2], clone)) {pre : List Tm → Prop} (hpre : ∀ l, pre l → (Sp.flatL l).length ≤ 8589934592) :
  CtrOK P W f (pureCtr [.lst (.nm 0)] [.lst (.nm 0)] (some pre) (fun l => l)) := by
 refine pureCtr_ok fun l hl as has σ => ?_
 obtain ⟨tok, rfl⟩ := asLst has
 refine (copy_ok hf hg l σ tok (hpre l hl)).mono fun v σ' ⟨⟨t, hv⟩, hle⟩ => ⟨.inr (.inl ?_), hle⟩
 rw [hv]
 show AV.lst 3 (l.map encT) .none = encE (.lst (.nm 0)) l
 exact (congrArg (fun x => AV.lst 3 x Tok.none) (TA.encM l)).symm
end TC
end Go.AL
namespace Go.AL
open Go.RowKit
set_option linter.unusedVariables false
set_option linter.unusedSectionVars false
set_option linter.unusedSimpArgs false
namespace TG
open TA (Law)
def IsFn (y : AV) : Prop := ∃ fy ya yc, y = .fn fy ya yc
theorem IsFn.ok {y : AV} (h : IsFn y) : y.ok = true ∧ y.cells = [y] := by obtain ⟨_, _, _, rfl⟩ := h; exact ⟨rfl, rfl⟩
variable {P : Program} {W : World} {ys : List AV} {J : Nat → AH → AH → Prop} {E : AH → AH → Prop} {y : AV}
theorem claim (hL : Law P W ys J E y) {k : Nat} {I τ : AH} {b : Nat} {o : AObj} (hJ : J k I τ) (hb : τ b = none) :
  J k (I.put b o) (τ.put b o) ∧ I.le (I.put b o) ∧ (I.put b o) b = some o ∧ (∀ c, I c ≠ none → c ≠ b) := by
 have hI := hL.le _ _ _ hJ
 have hIb : I b = none := AH.none_le hI hb
 have h1 : I.le (I.put b o) := AH.le_put _ hIb
 refine ⟨hL.grow _ _ _ _ _ hJ (AH.le_put _ hb) h1 (fun c x hc => ?_) (fun c h2 h3 => ?_), h1, AH.put_same _ _ _, fun c hc => by rintro rfl; exact hc hIb⟩
 ·by_cases hcb : c = b
  ·subst hcb; rw [AH.put_same] at hc ⊢; exact hc
  ·rw [AH.put_ne _ _ hcb] at hc ⊢; exact hI _ _ hc
 ·by_cases hcb : c = b
  ·subst hcb; exact hb
  ·rw [AH.put_ne _ _ hcb] at h2; exact absurd h3 h2
theorem more (hL : Law P W ys J E y) {k : Nat} {I τ τ' : AH} (hJ : J k I τ) (h : τ.le τ') : J k I τ' :=
 hL.grow _ _ _ _ _ hJ h (AH.le_refl _) (AH.le_trans (hL.le _ _ _ hJ) h) fun c h1 h2 => absurd h2 h1
def JU (J : Nat → AH → AH → Prop) (K : AH) (f : Nat → Nat) : Nat → AH → AH → Prop := fun k I τ => ∃ I2, I.le I2 ∧ K.le I2 ∧ J (f k) I2 τ
def EU (E : AH → AH → Prop) : AH → AH → Prop := fun I τ => ∃ I2, I.le I2 ∧ E I2 τ
theorem sub (hL : Law P W ys J E y) (K : AH) (f : Nat → Nat) {ys' : List AV} {y' : AV}
  (step : ∀ k x I τ, ys'[k]? = some x → K.le I → J (f k) I τ → ACallV P W y' [x] τ fun v τ' => I.le τ' ∧ ((v = .bool true ∧ J (f (k + 1)) I τ') ∨ (v = .bool false ∧ E I τ'))) :
  Law P W ys' (JU J K f) (EU E) y' := by
 refine ⟨?_, ?_, ?_, ?_, ?_, ?_⟩
 ·rintro k I τ ⟨I2, h1, h2, h3⟩; exact AH.le_trans h1 (hL.le _ _ _ h3)
 ·rintro k I τ I' τ' ⟨I2, h1, h2, h3⟩ h4 h5 h6 h7
  have hI2 := hL.le _ _ _ h3
  let I3 : AH := fun c => match I' c with
   | some o => some o
   | none => I2 c
  have e1 : I'.le I3 := fun c o hc => by simp only [I3, hc]
  have e2 : I3.le τ' := fun c o hc => by
   simp only [I3] at hc
   split at hc
   ·rename_i o' ho; cases hc; exact h6 _ _ ho
   ·exact h4 _ _ (hI2 _ _ hc)
  have e3 : I2.le I3 := fun c o hc => by
   simp only [I3]
   split
   ·rename_i o' ho
    have g1 := h6 _ _ ho; have g2 := h4 _ _ (hI2 _ _ hc)
    rw [g1] at g2; exact g2
   ·exact hc
  refine ⟨I3, e1, AH.le_trans h2 e3, hL.grow _ _ _ _ _ h3 h4 e3 e2 fun c g1 g2 => ?_⟩
  have g3 : I c = none := AH.none_le h1 g2
  refine h7 c ?_ g3
  intro g4
  simp only [I3, g4] at g1
  exact g1 g2
 ·rintro k I τ I' ⟨I2, h1, h2, h3⟩ h4; exact ⟨I2, AH.le_trans h4 h1, h2, h3⟩
 ·rintro I τ τ' ⟨I2, h1, h2⟩ h3; exact ⟨I2, h1, hL.growE _ _ _ h2 h3⟩
 ·rintro I τ I' ⟨I2, h1, h2⟩ h3; exact ⟨I2, AH.le_trans h3 h1, h2⟩
 ·rintro k x I τ hx ⟨I2, h1, h2, h3⟩
  refine wpA_mono_call (step k x I2 τ hx h2 h3) fun v τ' ⟨g1, g2⟩ => ⟨AH.le_trans h1 g1, ?_⟩
  rcases g2 with ⟨g2, g3⟩ | ⟨g2, g3⟩
  ·exact .inl ⟨g2, I2, h1, h2, g3⟩
  ·exact .inr ⟨g2, I2, h1, g3⟩
def HasA (ys : List AV) (k : Nat) (l : List AV) : Prop := ∀ i x, l[i]? = some x → ys[k + i]? = some x
theorem HasA.app {k : Nat} {a b : List AV} (h : HasA ys k (a ++ b)) : HasA ys k a ∧ HasA ys (k + a.length) b := by
 refine ⟨fun i x hx => h i x ?_, fun i x hx => ?_⟩
 ·rw [List.getElem?_append_left]; exact hx
  rcases Nat.lt_or_ge i a.length with h1 | h1
  ·exact h1
  ·rw [List.getElem?_eq_none h1] at hx; cases hx
 ·have := h (a.length + i) x (by rw [List.getElem?_append_right (by omega)]; simpa using hx)
  rw [← this]; congr 1; omega
theorem HasA.cons {k : Nat} {a : AV} {b : List AV} (h : HasA ys k (a :: b)) : ys[k]? = some a ∧ HasA ys (k + 1) b := by
 have := HasA.app (a := [a]) (b := b) h
 exact ⟨by simpa using this.1 0 a rfl, this.2⟩
theorem drop_nil (e : Env) : Env.drop e [] = e := by simp [Env.drop]
theorem HR.keep [Uni3] {fr0 : F0} {w : Wd} {st : St} {σ σ' : AH} {ds : List Nat} (hH : HR P W fr0 w st σ ds) (hle : σ.le σ') {F : AH} (hF : F.le σ') (hw : w.fr.le F) (hn : ∀ c, F c ≠ none → w.fr c = none → σ c = none) :
  HR P W fr0 { w with fr := F } st σ' ds := by
 refine (hH.grow hle).upfr hF hw fun c hc1 hc2 => ?_
 have hc := hn c hc1 hc2
 refine ⟨fun x o hx e => ?_, fun i hi => ?_, fun o ho => ?_⟩
 ·obtain ⟨ao, k1, k2⟩ := hH.obj x o hx
  rw [e, hc] at k1; cases k1
 ·have hlv := hH.live i hi
  cases ht : w.tk i with
  | none => rfl
  | clip => rfl
  | own b' e lim =>
    rw [ht] at hlv
    by_cases g2 : b' = c
    ·subst g2
     have : σ b' = some (.row e lim) := hlv
     rw [hc] at this; cases this
    ·simpa [Tok.isOn] using g2
 ·have := (hH.lrec c o ho).1
  rw [hc] at this; cases this
end TG
end Go.AL
