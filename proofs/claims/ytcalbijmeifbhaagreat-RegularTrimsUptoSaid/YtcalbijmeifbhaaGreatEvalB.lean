/- The evaluator's loops and functions. -/
import Derived.Test.YtcalbijmeifbhaaGreatEvalA
set_option linter.unusedVariables false
set_option linter.unusedSimpArgs false
namespace Go.AL
open Go.RowKit
set_option linter.unusedVariables false
set_option linter.unusedSimpArgs false
set_option linter.unusedSectionVars false
theorem wpA_mono_call {P : Program} {W : World} {fv : AV} {args : List AV} {σ : AH} {R R' : AV → AH → Prop} (h : ACallV P W fv args σ R) (hk : ∀ v σ', R v σ' → R' v σ') : ACallV P W fv args σ R' := by
 unfold ACallV at *
 split at h
 ·exact ⟨h.1, fun F vs w hr hI => (h.2 F vs w hr hI).mono fun e w' ⟨cv, he, F', v, σ', h1, h2, h3, h4⟩ => ⟨cv, he, F', v, σ', h1, h2, h3, hk _ _ h4⟩⟩
 ·exact fun F vs w hr hI => (h F vs w hr hI).mono fun v w' ⟨F', v', σ', h1, h2, h3, h4⟩ => ⟨F', v', σ', h1, h2, h3, hk _ _ h4⟩
 ·exact h.elim
theorem ACall.mono {P : Program} {W : World} {f : FuncId} {args : List AV} {σ : AH} {R R' : AV → AH → Prop} (h : ACall P W f args σ R) (hk : ∀ v σ', R v σ' → R' v σ') : ACall P W f args σ R' :=
 ⟨h.1, fun F vs w hr hI => (h.2 F vs w hr hI).mono fun e w' ⟨cv, he, F', v, σ', h1, h2, h3, h4⟩ => ⟨cv, he, F', v, σ', h1, h2, h3, hk _ _ h4⟩⟩
section
variable [Uni3] {P : Program} {W : World} {fr0 : F0} {w w' : Wd} {st : St} {σ σ' : AH} {ds : List Nat} {nx nx' : Nat} {env : List (Nat × VV)} {aenv : Env} {gs : List (Nat × Bool)} {Γ : Ctx}
theorem callee_rel (he : ER P W w nx env aenv) (hg : GH aenv gs) {f : AX} {args : List AX} {g : Nat} {vs : List VV} (h : callee env gs f args = some (g, vs)) :
  ∃ as, VRelL P W w nx vs as ∧ ∀ σ R, ACall P W g as σ R → ACallV P W (ev aenv f) (args.map (ev aenv)) σ R := by
 unfold callee at h
 have rf := evX_rel he hg f
 split at h
 ·rename_i g' fst cap hf
  cases h
  rw [hf] at rf
  simp only [VRel] at rf
  obtain ⟨as, bs, r1, r2, r3⟩ := rf
  exact ⟨as ++ args.map (ev aenv) ++ bs, (r2.append (evX_map he hg args)).append r3, fun σ R h => by rw [r1]; exact h⟩
 ·cases h
def OpOK' (P : Program) (W : World) (w : Wd) (nx : Nat) (aenv : Env) (σ : AH) (hd : Bool) (op : AOp) (pv : PV) : Prop :=
 (hd = false → ∀ K : AV → AH → Prop, (∀ a σ', σ.le σ' → VRel P W w nx pv.v a → optP pv.h → K a σ') → wpA P W aenv σ op K) ∧
 (hd = true → optP pv.h → ∀ K : AV → Prop, (∀ a, VRel P W w nx pv.v a → K a) → wpH P W aenv σ op K)
theorem OpOK.up {hd : Bool} {op : AOp} {pv : PV} (h : OpOK P W w nx aenv σ hd op pv) : OpOK' P W w nx aenv σ hd op pv :=
 ⟨fun e K hk => h.1 e K fun a h1 h2 => hk a σ σ.le_refl h1 h2, h.2⟩
theorem opOK' {hd : Bool} {hp : List (Nat × LObj)} {op : AOp} {pv : PV} (hΓ : CtxOK P W Γ) (he : ER P W w nx env aenv) (hg : GH aenv gs) (hh : HO P W w nx hp σ) (hfr : w.fr.le σ) (h : opV' Γ hd hp env gs op = some pv) (hc : optP pv.c) :
  OpOK' P W w nx aenv σ hd op pv := by
 cases op with
 | call f args =>
   simp only [opV'] at h
   split at h
   ·rename_i g vs hcal
    obtain ⟨as, r1, r2⟩ := callee_rel he hg hcal
    split at h
    ·rename_i c hcg
     obtain ⟨h1, V, hV, hcall⟩ := (hΓ g c hcg).pv vs pv h hc w nx as r1
     refine ⟨fun _ K hk => ?_, fun _ _ K hk => ?_⟩
     ·simp only [wpA]
      exact wpA_mono_call (r2 _ _ (hcall σ hfr)) fun a σ' ⟨h2, h3⟩ => hk a σ' h3 (hV a h2) h1
     ·simp only [wpH]
      exact ⟨V, fun σ' hσ' => r2 _ _ (hcall σ' (AH.le_trans hfr hσ')), hk V (hV V (.inl rfl))⟩
    ·cases h
   ·cases h
 | _ => simp only [opV'] at h; exact (opOK he hg hh h hc).up
theorem VRelB_len [Uni3] {P : Program} {W : World} {w : Wd} {nx : Nat} : ∀ {cs : List VV} {ds : List AV}, VRelB P W w nx cs ds → ds.length = cs.length
 | [], ds, h => by simp only [VRelB] at h; subst h; rfl
 | c :: cs, ds, h => by simp only [VRelB] at h; obtain ⟨a, r, rfl, _, h⟩ := h; simp [VRelB_len h]
def appW (σ : AH) (sz : Nat) (a b : AV) (K : AV → AH → Prop) : Prop :=
 match a, b with
 | .lst sz' xs t, .lst sz'' ys _ => sz' = sz ∧ sz'' = sz ∧ Live σ t ∧ xs.length + ys.length ≤ 8589934592 ∧ ∀ t' σ', Appended σ t σ' t' → K (.lst sz (xs ++ ys) t') σ'
 | _, _ => False
theorem appW_app {P : Program} {W : World} {aenv : Env} {σ : AH} {sz : Nat} {x y : AX} {K : AV → AH → Prop} (h : appW σ sz (ev aenv x) (ev aenv y) K) : wpA P W aenv σ (.app sz x y) K := by
 unfold appW at h
 simp only [wpA]
 split at h
 ·rename_i h1 h2
  rw [h1, h2]
  exact ⟨h.1, h.2.1, h.2.2.1, h.2.2.2.1, .inl h.2.2.2.2⟩
 ·exact h.elim
theorem appE_sound {sz : Nat} {vx vy : VV} {x y : AX} {K : VV → St → Prop} (hr : HR P W fr0 w st σ ds) (rx : VRel P W w st.nx vx (ev aenv x)) (ry : VRel P W w st.nx vy (ev aenv y)) (h : appE st sz vx vy K) {K' : AV → AH → Prop}
  (hk : ∀ v st' w' σ' a, K v st' → st'.env = st.env → HR P W fr0 w' st' σ' ds → VRel P W w' st'.nx v a → Wd.le st.nx w w' → st.nx ≤ st'.nx → K' a σ') : appW σ sz (ev aenv x) (ev aenv y) K' := by
 have liveT : ∀ {tk : VTok} {tok : Tok} {live' : List Nat}, TokR w st.nx tk tok → takeTok st tk = some live' → Live σ tok := by
  intro tk tok live' ht hk
  cases tk with
  | none => cases hk
  | clip => have : tok = .clip := ht
            subst this; trivial
  | own id =>
    simp only [takeTok] at hk
    split at hk
    ·rename_i hc; obtain ⟨_, rfl⟩ := ht; exact hr.live id (by simpa using hc)
    ·cases hk
 have lenB : ∀ {w : Wd} {nx : Nat} {cs : List VV} {ds : List AV}, VRelB P W w nx cs ds → ds.length = cs.length := by
  intro w nx cs
  induction cs with
  | nil => intro ds h; simp only [VRelB] at h; subst h; rfl
  | cons c cs ih => intro ds h; simp only [VRelB] at h; obtain ⟨a, r, rfl, _, h⟩ := h; simp [ih h]
 have appB : ∀ {w : Wd} {nx : Nat} {xs ys : List VV} {as bs : List AV}, VRelB P W w nx xs as → VRelB P W w nx ys bs → VRelB P W w nx (xs ++ ys) (as ++ bs) := by
  intro w nx xs
  induction xs with
  | nil => intro ys as bs h k; simp only [VRelB] at h; subst h; exact k
  | cons c cs ih => intro ys as bs h k; simp only [VRelB] at h; obtain ⟨a, r, rfl, h1, h⟩ := h; simp only [List.cons_append, VRelB]; exact ⟨a, _, rfl, h1, ih h k⟩
 have lstOf : ∀ {t : Ty} {v : VV} {l : List (El t)} {a : AV}, asF 8 (.lst t) v = some l → VRel P W w st.nx v a → (∃ sz xs tk, v = .vls sz xs tk) ∨ (∃ t' l' tk, v = .lst t' l' tk) → ∃ tok, a = .lst (szE t) (l.map (encE t)) tok := by
  intro t v l a h1 h2 h3
  have := asF_rel _ _ _ _ _ h1 h2
  simp only [encE] at this
  rcases h3 with ⟨sz, xs, tk, rfl⟩ | ⟨t', l', tk, rfl⟩
  ·simp only [VRel] at h2
   obtain ⟨ys, tok, rfl, _⟩ := h2
   simp only [AV.bare, AV.lst.injEq] at this
   exact ⟨tok, by rw [this.1, this.2.1]⟩
  ·simp only [VRel] at h2
   obtain ⟨tok, rfl, _⟩ := h2
   simp only [AV.bare, AV.lst.injEq] at this
   exact ⟨tok, by rw [this.1, this.2.1]⟩
 unfold appE at h
 split at h
 ·rename_i t l tk
  split at h
  ·rename_i hs
   split at h
   ·rename_i l' live' hl hlv
    obtain ⟨hlen, hK⟩ := h
    simp only [VRel] at rx
    obtain ⟨tok, rx, rt⟩ := rx
    have : ∃ tok', ev aenv y = .lst (szE t) (l'.map (encE t)) tok' := by
     refine lstOf hl ry ?_
     cases vy <;> simp only [asF, reduceCtorEq] at hl
     ·exact .inr ⟨_, _, _, rfl⟩
     ·exact .inl ⟨_, _, _, rfl⟩
    obtain ⟨tok', ry'⟩ := this
    simp only [appW, rx, ry', List.length_map]
    refine ⟨hs, hs, liveT rt hlv, hlen, fun t' σ' ha => ?_⟩
    obtain ⟨w', h1, h2, h3⟩ := hr.app rt hlv ha
    refine hk _ _ w' σ' _ hK rfl h2 ?_ h1 (Nat.le_succ _)
    simp only [VRel]
    exact ⟨t', by rw [hs, List.map_append], Nat.lt_succ_self _, h3.symm⟩
   ·exact h.elim
  ·exact h.elim
 ·rename_i sz' xs tk
  split at h
  ·rename_i hs
   subst hs
   simp only [VRel] at rx
   split at h
   ·rename_i sz'' ys tk' live' hlv
    split at h
    ·rename_i hc
     obtain ⟨as, tok, rx, rb, rt⟩ := rx
     simp only [VRel] at ry
     obtain ⟨bs, tok', ry, rb', _⟩ := ry
     simp only [appW, rx, ry]
     refine ⟨by trivial, hc.1, liveT rt hlv, ?_, fun t' σ' ha => ?_⟩
     ·rw [lenB rb, lenB rb']; omega
     obtain ⟨w', h1, h2, h3⟩ := hr.app rt hlv ha
     refine hk _ _ w' σ' _ h rfl h2 ?_ h1 (Nat.le_succ _)
     simp only [VRel]
     exact ⟨_, t', rfl, appB (VRelB.mono h1 (Nat.le_succ _) _ rb) (VRelB.mono h1 (Nat.le_succ _) _ rb'), Nat.lt_succ_self _, h3.symm⟩
    ·exact h.elim
   ·rename_i t l tk' live' hlv
    split at h
    ·rename_i hs
     split at h
     ·rename_i l₀ hl₀
      obtain ⟨hlen, hK⟩ := h
      obtain ⟨as, tok, rx, rb, rt⟩ := rx
      have hvx : VRel P W w st.nx (.vls sz' xs .none) (ev aenv x) := by
       simp only [VRel]; exact ⟨as, tok, rx, rb, trivial⟩
      obtain ⟨tok₂, rx'⟩ := lstOf hl₀ hvx (.inl ⟨_, _, _, rfl⟩)
      have htk : tok₂ = tok := by rw [rx] at rx'; cases rx'; rfl
      subst htk
      simp only [VRel] at ry
      obtain ⟨tok', ry, _⟩ := ry
      simp only [appW, rx', ry, List.length_map]
      refine ⟨hs, hs, liveT rt hlv, hlen, fun t' σ' ha => ?_⟩
      obtain ⟨w', h1, h2, h3⟩ := hr.app rt hlv ha
      refine hk _ _ w' σ' _ hK rfl h2 ?_ h1 (Nat.le_succ _)
      simp only [VRel]
      exact ⟨t', by rw [hs, List.map_append], Nat.lt_succ_self _, h3.symm⟩
     ·exact h.elim
    ·exact h.elim
   ·exact h.elim
  ·exact h.elim
 ·exact h.elim
theorem aset_set {t u : Ty} {es es' : List (El t × El u)} {k : El t} {v : El u} (h : asetT t u es k v = some es') :
  setA (encE t k) (encE u v) (es.map fun p => (encE t p.1, encE u p.2)) = es'.map (fun p => (encE t p.1, encE u p.2)) ∧ ∃ r, lookT t u es k = some r := by
 cases t with
 | str =>
   simp only [asetT, Option.some.injEq] at h
   subst h
   refine ⟨?_, _, rfl⟩
   induction es with
   | nil => rfl
   | cons p es ih =>
     obtain ⟨a, b⟩ := p
     simp only [List.map_cons, setA, encE, keyEq, aset] at ih ⊢
     by_cases e : (k : ByteArray) = a
     ·simp [e, encE]
     ·simp only [e, decide_false, if_false, List.map_cons, Option.some.injEq, Bool.false_eq_true]; rw [ih]
 | int kd =>
   simp only [asetT, Option.some.injEq] at h
   subst h
   refine ⟨?_, _, rfl⟩
   induction es with
   | nil => rfl
   | cons p es ih =>
     obtain ⟨a, b⟩ := p
     simp only [List.map_cons, setA, encE, keyEq, aset] at ih ⊢
     by_cases e : (k : Int) = a
     ·simp [e, encE]
     ·simp only [e, decide_false, if_false, if_true, List.map_cons, Option.some.injEq, Bool.false_eq_true]; rw [ih]
 | _ => simp [asetT] at h
theorem selE_at {i : Int} {F : Nat → Prop} : ∀ (n j : Nat), selE i j n F → (j : Int) ≤ i → i < (j + n : Nat) → F i.toNat
 | 0, j, _, h1, h2 => by omega
 | n + 1, j, h, h1, h2 => by
   simp only [selE] at h
   by_cases e : i = j
   ·have := h.1 e
    rw [show i.toNat = j by omega]; exact this
   ·exact selE_at n (j + 1) h.2 (by omega) (by omega)
theorem opE_sound {op : AOp} {K : VV → St → Prop} (hΓ : CtxOK P W Γ) (he : ER P W w st.nx st.env aenv) (hr : HR P W fr0 w st σ ds) (h : opE Γ st op K) {K' : AV → AH → Prop}
  (hk : ∀ v st' w' σ' a, K v st' → st'.env = st.env → HR P W fr0 w' st' σ' ds → VRel P W w' st'.nx v a → Wd.le st.nx w w' → st.nx ≤ st'.nx → K' a σ') : wpA P W aenv σ op K' := by
 have hg0 : GH aenv [] := fun g hg => by cases hg
 cases op with
 | new zs =>
   simp only [opE] at h
   split at h
   ·rename_i hz
    simp only [wpA]
    intro b hb
    obtain ⟨w', h1, h2, h3⟩ := hr.new hb (o := .cells (ofAVs zs)) (ao := .cells zs) (ORel_cells.2 ⟨zs, rfl, ofAVs_rel zs⟩)
    refine hk _ _ w' _ _ h rfl h2 ?_ h1 (Nat.le_succ _)
    simp only [VRel]; exact ⟨Nat.lt_succ_self _, by rw [h3]⟩
   ·exact h.elim
 | box x =>
   simp only [opE] at h
   split at h
   ·rename_i hz
    have rx := cellsV_rel hz (evX_rel he hg0 x)
    simp only [wpA]
    refine ⟨rx.2, fun b hb => ?_⟩
    obtain ⟨w', h1, h2, h3⟩ := hr.new hb (o := .cells (cellsV (evX st.env [] x))) (ao := .cells (ev aenv x).cells) (ORel_cells.2 ⟨_, rfl, rx.1⟩)
    refine hk _ _ w' _ _ h rfl h2 ?_ h1 (Nat.le_succ _)
    simp only [VRel]; exact ⟨Nat.lt_succ_self _, by rw [h3]⟩
   ·exact h.elim
 | st n x v =>
   simp only [opE] at h
   split at h
   ·rename_i hd o m i' hx
    have rx := evX_rel he hg0 x
    rw [hx] at rx
    simp only [VRel] at rx
    obtain ⟨hlt, h0, hi, rx⟩ := rx
    split at h
    ·rename_i vs kk y hvs hv
     have rv := evX_rel he hg0 v
     rw [hv] at rv
     simp only [VRel] at rv
     split at h
     ·rename_i hc
      obtain ⟨rfl, hle⟩ := hc
      split at h
      ·rename_i l hl
       obtain ⟨as, h1, h2⟩ := hr.cells hvs
       have hlen := h2.length
       simp only [wpA, rx, h1, rv]
       refine ⟨rfl, rfl, by omega, ?_⟩
       refine hk _ _ w _ _ h rfl (hr.setObj hvs (o' := .cells _) (ORel_cells.2 ⟨_, rfl, ?_⟩) (by rw [h1]; simp) (by rw [h1]; simp)) (by simp only [VRel]; exact ⟨[], rfl, by simp [VRelL]⟩) (Wd.le_refl _ _) (Nat.le_refl _)
       have hmid := setIV_rel _ _ 0 _ hl ((h2.drop o).take m) (by omega)
       have hall := ((h2.take o).append hmid).append (h2.drop (o + m))
       have e : as.take o ++ ((as.drop o).take m).set (i'.toNat - 0) (.int kk y) ++ as.drop (o + m) = setAt as (o + i'.toNat) (AV.int kk y).cells := by
        simp only [AV.cells, setAt, Nat.sub_zero]
        apply List.ext_getElem?
        intro q
        have hl1 : (as.take o).length = o := by rw [List.length_take]; omega
        have hl2 : (((as.drop o).take m).set i'.toNat (.int kk y)).length = m := by rw [List.length_set, List.length_take, List.length_drop]; omega
        rcases Nat.lt_or_ge q o with hq | hq
        ·rw [List.append_assoc, List.getElem?_append_left (by omega), List.getElem?_take, if_pos hq, List.getElem?_set_ne (by omega)]
        ·rcases Nat.lt_or_ge q (o + m) with hq2 | hq2
         ·rw [List.getElem?_append_left (by rw [List.length_append]; omega), List.getElem?_append_right (by omega), hl1]
          by_cases hqi : q = o + i'.toNat
          ·subst hqi
           rw [show o + i'.toNat - o = i'.toNat by omega, List.getElem?_set_self (by rw [List.length_take, List.length_drop]; omega), List.getElem?_set_self (by omega)]
          ·rw [List.getElem?_set_ne (by omega), List.getElem?_set_ne (by omega), List.getElem?_take, if_pos (by omega), List.getElem?_drop]
           congr 1; omega
         ·rw [List.getElem?_append_right (by rw [List.length_append]; omega), List.length_append, hl1, hl2, List.getElem?_drop, List.getElem?_set_ne (by omega)]
          congr 1; omega
       rw [← e]; exact hall
      ·exact h.elim
     ·exact h.elim
    ·exact h.elim
   ·rename_i sz hd i' o hx
    have rx := evX_rel he hg0 x
    rw [hx] at rx
    simp only [VRel] at rx
    obtain ⟨hlt, n', c, htk, h0, hi, rx⟩ := rx
    split at h
    ·rename_i t l tk h3
     obtain ⟨hsz, _, n'', c', ys, rest, hA⟩ := arr_rel hr.obj h3
     subst hsz
     have hnn : n' = n'' := by have := htk.symm.trans hA.tk; injection this
     subst hnn
     have hl := hA.len
     obtain ⟨ha1, ha2⟩ := arr_at hA.eq h0 (show i' < l.length by omega)
     have hcl := cellsF_rel (P := P) (W := W) (w := w) (nx := st.nx) 8 t _ _ ha1
     have hk1 : i'.toNat * szE t + szE t ≤ ys.length := by
      rw [ha2, ← Nat.succ_mul]; exact Nat.mul_le_mul_right _ (by omega)
     split at h
     ·rename_i hc
      obtain ⟨hc1, hc2, hc3⟩ := hc
      split at h
      ·rename_i e hee
       have rv := cellsV_rel hc2 (evX_rel he hg0 v)
       have hvl : (ev aenv v).cells.length = n := by rw [rv.1.length]; exact hc1
       obtain ⟨tk0, hob⟩ := hA.ob
       simp only [wpA, rx, hA.at_]
       refine ⟨hvl, rv.2, by rw [List.length_append]; omega, ?_⟩
       have hset : setAt (ys ++ rest) (i'.toNat * szE t + o) (ev aenv v).cells = setAt ys (i'.toNat * szE t + o) (ev aenv v).cells ++ rest := setAt_append_left _ _ _ _ (by omega)
       -- the new element's cells
       have hnew : (setAt ((ys.drop (i'.toNat * szE t)).take (szE t)) o (ev aenv v).cells).map AV.bare1 = (encE t e).cells := by
        split at hee
        ·rename_i hon
         obtain ⟨rfl, rfl⟩ := hon
         rw [setAt_whole _ _ (by rw [List.length_take, List.length_drop]; omega)]
         exact bareE_cells (asF_rel _ _ _ _ _ hee (evX_rel he hg0 v))
        ·have hag : VRel P W w st.nx (.agg (setAt (cellsF 8 t (nth (dflE t) l i')) o (cellsV (evX st.env [] v)))) (.agg (setAt ((ys.drop (i'.toNat * szE t)).take (szE t)) o (ev aenv v).cells)) := by
          simp only [VRel]; exact ⟨_, rfl, hcl.setAt rv.1⟩
         exact bareE_cells (asF_rel _ _ _ _ _ hee hag)
       have heq : (setAt ys (i'.toNat * szE t + o) (ev aenv v).cells).map AV.bare1 = ((l.set i'.toNat e).map (encE t)).flatMap AV.cells :=
        arr_set hA.eq h0 (by omega) (by omega) hnew
       refine hk _ _ w _ _ h rfl (hr.setObj hob (o' := .ob .arr _) ?_ (by rw [hA.at_]; simp) (by rw [hA.at_]; simp)) (by simp only [VRel]; exact ⟨[], rfl, by simp [VRelL]⟩) (Wd.le_refl _ _) (Nat.le_refl _)
       rw [hset]
       exact ⟨[.lst (szE t) ((l.set i'.toNat e).map (encE t)) .none, .slc (szE t) (w.ρ hd) 0 n' c'],
        by simp only [VRelL, VRel]; exact ⟨_, _, rfl, ⟨_, rfl, trivial⟩, _, _, rfl, ⟨hlt, _, _, hA.tk, rfl⟩, rfl⟩,
        szE t, w.ρ hd, n', c', _, _, _, rest, rfl, rfl, by simp [hl], hA.cap, hA.max, heq⟩
      ·exact h.elim
     ·exact h.elim
    ·exact h.elim
   ·rename_i hd o hx
    have rx := evX_rel he hg0 x
    rw [hx] at rx
    simp only [VRel] at rx
    split at h
    ·rename_i vs hvs
     split at h
     ·rename_i hc
      obtain ⟨as, h1, h2⟩ := hr.cells hvs
      have rv := cellsV_rel hc.2.1 (evX_rel he hg0 v)
      simp only [wpA, rx.2, h1]
      refine ⟨by rw [rv.1.length]; exact hc.1, rv.2, by rw [h2.length]; exact hc.2.2, ?_⟩
      exact hk _ _ w _ _ h rfl (hr.setObj hvs (o' := .cells _) (ORel_cells.2 ⟨_, rfl, h2.setAt rv.1⟩) (by rw [h1]; simp) (by rw [h1]; simp)) (by simp only [VRel]; exact ⟨[], rfl, by simp [VRelL]⟩) (Wd.le_refl _ _) (Nat.le_refl _)
     ·exact h.elim
    ·exact h.elim
   ·exact h.elim
 | app sz x y =>
   simp only [opE] at h
   split at h
   ·have rx := evX_rel he hg0 x
    have ry := evX_rel he hg0 y
    unfold appM at h
    split at h
    ·rename_i sz' t l tk hx hy
     rw [hx] at rx; rw [hy] at ry
     simp only [VRel] at rx ry
     obtain ⟨ys, tok, rx, rb, rt⟩ := rx
     simp only [VRelB] at rb; subst rb
     have rt' : tok = .clip := rt
     subst rt'
     obtain ⟨tok2, ry, _⟩ := ry
     split at h
     ·rename_i hc
      obtain ⟨rfl, hsz⟩ := hc
      subst hsz
      obtain ⟨⟨h0, h1⟩, h⟩ := h
      simp only [wpA, rx, ry]
      refine ⟨trivial, trivial, trivial, by simpa using h1, .inr ⟨trivial, trivial, by simpa using h0, fun b c hb hbc hc63 => ?_⟩⟩
      rw [List.length_map] at hbc ⊢
      obtain ⟨w', k1, k2, k3, k4⟩ := hr.newT (o := .ob .arr [.lst t l .none, .sl (szE t) st.nx]) (ao := .cells ((l.map (encE t)).flatMap AV.cells ++ List.replicate ((c - l.length) * szE t) .any)) (.own b l.length c) hb fun w' hle hρ htk =>
       ⟨[.lst (szE t) (l.map (encE t)) .none, .slc (szE t) b 0 l.length c],
        by simp only [VRelL, VRel]; exact ⟨_, _, rfl, ⟨_, rfl, trivial⟩, _, _, rfl, ⟨Nat.lt_succ_self _, _, _, by rw [htk, hρ], by rw [hρ]⟩, rfl⟩,
        szE t, b, l.length, c, _, _, (l.map (encE t)).flatMap AV.cells, List.replicate ((c - l.length) * szE t) .any, rfl, rfl, by simp, hbc, hc63, by
         rw [List.map_flatMap, List.flatMap_map, List.flatMap_map]
         congr 1
         funext e
         exact bareE_cells (encE_bare t e)⟩
      exact hk _ _ w' _ _ h rfl k2 (by simp only [VRel]; exact ⟨Nat.lt_succ_self _, _, _, by rw [k4, k3], by rw [k3]⟩) k1 (Nat.le_succ _)
     ·exact h.elim
    ·exact h.elim
   ·exact appW_app (appE_sound hr (evX_rel he hg0 x) (evX_rel he hg0 y) h hk)
 | appf sz x i y v =>
   simp only [opE] at h
   have rx := evX_rel he hg0 x
   have ri := evX_rel he hg0 i
   have ry := evX_rel he hg0 y
   have rv := evX_rel he hg0 v
   split at h
   ·rename_i kk k sz' u tk n hi hy hn
    rw [hi] at ri; rw [hy] at ry
    simp only [VRel] at ri ry
    obtain ⟨ys, tok, ry, rb, _⟩ := ry
    simp only [VRelB] at rb
    obtain ⟨a', r', rfl, _, rfl⟩ := rb
    split at h
    ·rename_i hc
     obtain ⟨rfl, hl, hok⟩ := hc
     obtain ⟨rfl, h⟩ := h
     have rc := cellsV_rel hok rv
     have hw := appE_sound (x := x) (y := .c (.lst sz' [(ev aenv v).bare] .none)) hr rx (show VRel P W w st.nx (.vls sz' [evX st.env [] v] .none) (.lst sz' [(ev aenv v).bare] .none) by
      simp only [VRel, VRelB]; exact ⟨_, _, rfl, ⟨_, _, rfl, rv, rfl⟩, trivial⟩) h hk
     unfold appW at hw
     simp only [ev] at hw
     split at hw
     ·rename_i sz1 xs t sz2 ys tt h1 h2
      cases h2
      obtain ⟨g1, g2, g3, g4, g5⟩ := hw
      simp only [wpA]
      have h1' : ev aenv x = .lst sz1 xs t := by cases x <;> exact h1
      rw [h1', ri, ry]
      refine ⟨g1, rfl, ?_, g3, by simpa using g4, by rw [rc.1.length]; exact hl, rc.2, g5⟩
      cases hx : evX st.env [] x <;> rw [hx] at hn rx <;> simp only [lenVV, Option.some.injEq, reduceCtorEq] at hn
      ·simp only [VRel] at rx
       obtain ⟨tok, rx, _⟩ := rx
       rw [h1'] at rx; cases rx
       rw [← hn, List.length_map]
      ·simp only [VRel] at rx
       obtain ⟨ys', tok, rx, rb, _⟩ := rx
       rw [h1'] at rx; cases rx
       rw [← hn, VRelB_len rb]
     ·exact hw.elim
    ·exact h.elim
   ·exact h.elim
 | call f args =>
   simp only [opE] at h
   split at h
   ·rename_i g vs hcal
    obtain ⟨as, r1, r2⟩ := callee_rel he hg0 hcal
    split at h
    ·rename_i c hcg
     simp only [wpA]
     refine wpA_mono_call (r2 _ _ ((hΓ g c hcg).run vs st K h fr0 w σ ds as hr r1)) ?_
     rintro a σ' ⟨v, st', w', h1, h2, h3, h4, h5, h6⟩
     exact hk v st' w' σ' a h1 h2 h3 h4 h5 h6
    ·exact h.elim
   ·exact h.elim
 | mks sz z n c =>
   simp only [opE] at h
   have rn := evX_rel he hg0 n
   have rc := evX_rel he hg0 c
   split at h
   ·rename_i k1 n' k2 c' t hn hcc ht
    rw [hn] at rn; rw [hcc] at rc
    simp only [VRel] at rn rc
    split at h
    ·rename_i hsz
     subst hsz
     split at h
     ·rename_i zz hzz
      obtain ⟨⟨h0, h1, h2⟩, h⟩ := h
      have hz := asF_rel _ _ _ _ _ hzz (ofAV_rel (P := P) (W := W) (w := w) (nx := st.nx) z)
      simp only [wpA, rn, rc]
      refine ⟨h0, h1, h2, fun b hb => ?_⟩
      have hbc : z.cells.map AV.bare1 = (encE t zz).cells := bareE_cells hz
      obtain ⟨w', k1, k2, k3, k4⟩ := hr.newT (o := .ob .arr [.lst t (List.replicate n'.toNat zz) .none, .sl (szE t) st.nx]) (ao := .cells (List.replicate c'.toNat z.cells).flatten) (.own b n'.toNat c'.toNat) hb fun w' hle hρ htk =>
       ⟨[.lst (szE t) ((List.replicate n'.toNat zz).map (encE t)) .none, .slc (szE t) b 0 n'.toNat c'.toNat],
        by simp only [VRelL, VRel]; exact ⟨_, _, rfl, ⟨_, rfl, trivial⟩, _, _, rfl, ⟨Nat.lt_succ_self _, _, _, by rw [htk, hρ], by rw [hρ]⟩, rfl⟩,
        szE t, b, n'.toNat, c'.toNat, _, _, (List.replicate n'.toNat z.cells).flatten, (List.replicate (c'.toNat - n'.toNat) z.cells).flatten, rfl, by
         rw [← List.flatten_append, List.replicate_append_replicate]; congr 4; omega, by simp, by omega, by omega, by
         simp only [List.map_replicate, List.map_flatten, hbc]
         rw [List.flatMap_def, List.map_replicate]⟩
      exact hk _ _ w' _ _ h rfl k2 (by simp only [VRel]; exact ⟨Nat.lt_succ_self _, _, _, by rw [k4, k3], by rw [k3]⟩) k1 (Nat.le_succ _)
     ·exact h.elim
    ·exact h.elim
   ·exact h.elim
 | mkmap =>
   simp only [opE] at h
   simp only [wpA]
   intro b hb
   obtain ⟨w', h1, h2, h3⟩ := hr.new hb (o := .ob .map [.vls 1 [] .none]) (ao := .map []) ⟨[.lst 1 [] .none], by simp [VRelL, VRel, VRelB, TokR], [], .none, rfl, rfl⟩
   exact hk _ _ w' _ _ h rfl h2 (by simp only [VRel]; exact ⟨Nat.lt_succ_self _, by rw [h3]⟩) h1 (Nat.le_succ _)
 | upd g m k v =>
   simp only [opE] at h
   split at h
   ·rename_i hd hm
    have rm := evX_rel he hg0 m
    have rk := evX_rel he hg0 k
    have rv := evX_rel he hg0 v
    rw [hm] at rm
    simp only [VRel] at rm
    split at h
    ·rename_i c cs t u hhd htk htv
     split at h
     ·rename_i hc
      obtain ⟨rfl, hko⟩ := hc
      obtain ⟨ao, h1, as, h2, es, tok, rfl, rfl⟩ := hr.obj _ _ hhd
      split at h
      ·rename_i kk vv hkk hvv
       obtain ⟨hkey, hke⟩ := key_rel' hkk hko rk
       have hve := asF_rel 8 u _ vv _ hvv rv
       simp only [wpA, rm.2, h1]
       refine ⟨hkey, ?_⟩
       have fin : ∀ (es' : List (El t × El u)), K (.tup []) { st with hp := hpt st.hp hd (.ob .map [.lst (.pair t u) es' .none]) } → K' (.tup []) (σ.put (w.ρ hd) (.map (es'.map fun p => (encE t p.1, encE u p.2)))) := fun es' hK => by
        refine hk _ _ w _ _ hK rfl (hr.setObj hhd (o' := .ob .map [.lst (.pair t u) es' .none]) ⟨[.lst 1 (es'.map (encE (.pair t u))) .none], by simp only [VRelL, VRel]; exact ⟨_, _, rfl, ⟨.none, rfl, trivial⟩, rfl⟩, _, .none, ?_, rfl⟩ (by rw [h1]; simp) (by rw [h1]; simp)) (by simp only [VRel]; exact ⟨[], rfl, by simp [VRelL]⟩) (Wd.le_refl _ _) (Nat.le_refl _)
        simp [List.map_map, Function.comp_def, encE]
       split at h
       ·rename_i t' u' l tk
        split at h
        ·rename_i hh
         obtain ⟨rfl, rfl⟩ := hh
         split at h
         ·rename_i es' hes
          simp only [VRelL, VRel] at h2
          obtain ⟨_, _, e1, ⟨tok', e2, _⟩, _⟩ := h2
          cases e1
          simp only [AV.lst.injEq] at e2
          have h5 := pairs_inj e2.2.1
          subst h5
          obtain ⟨s1, r, s2⟩ := aset_set hes
          rw [hke, hve, alook_find s2, s1]
          exact ⟨rfl, fin es' h⟩
         ·exact h.elim
        ·exact h.elim
       ·rename_i sz tk
        simp only [VRelL, VRel] at h2
        obtain ⟨_, _, e1, ⟨ys, tok', e2, e3, _⟩, _⟩ := h2
        cases e1
        simp only [VRelB] at e3
        subst e3
        simp only [AV.lst.injEq, List.map_eq_nil_iff] at e2
        have h6 := e2.2.1
        subst h6
        rw [hke, hve]
        exact ⟨rfl, fin [(kk, vv)] h⟩
       ·exact h.elim
      ·exact h.elim
     ·exact h.elim
    ·exact h.elim
   ·exact h.elim
 | rng x =>
   simp only [opE] at h
   have rx := evX_rel he hg0 x
   split at h
   ·rename_i s hx
    rw [hx] at rx
    simp only [VRel] at rx
    simp only [wpA, rx]
    intro b hb
    obtain ⟨w', h1, h2, h3⟩ := hr.new hb (o := .ob .sit [.str s, .int .i64 0]) (ao := .sit s 0) ⟨[.str s, .int .i64 0], by simp [VRelL, VRel], s, 0, rfl, rfl⟩
    exact hk _ _ w' _ _ h rfl h2 (by simp only [VRel]; exact ⟨Nat.lt_succ_self _, by rw [h3]⟩) h1 (Nat.le_succ _)
   ·exact h.elim
 | nxt x =>
   simp only [opE] at h
   have rx := evX_rel he hg0 x
   split at h
   ·rename_i hd hx
    rw [hx] at rx
    simp only [VRel] at rx
    split at h
    ·rename_i c s k p hhd
     split at h
     ·rename_i hc
      subst hc
      obtain ⟨ao, h1, as, h2, s', p', rfl, rfl⟩ := hr.obj _ _ hhd
      simp only [VRelL, VRel] at h2
      obtain ⟨_, _, e1, rfl, _, _, e2, rfl, e3⟩ := h2
      simp only [List.cons.injEq, AV.str.injEq] at e1
      obtain ⟨rfl, rfl⟩ := e1
      simp only [List.cons.injEq, AV.int.injEq] at e2
      obtain ⟨⟨rfl, rfl⟩, _⟩ := e2
      simp only [wpA, rx.2, h1]
      split
      ·rename_i hlt
       have hlt' : decide ((p' : Int) < s'.size) = true := by simpa using hlt
       rw [hlt'] at h
       simp only [ifB, Int.toNat_natCast] at h
       refine hk _ _ w _ _ h rfl (hr.setObj hhd (o' := .ob .sit _) ⟨[.str s', .int .i64 ((p' : Int) + (Utf8.decode s' p').2)], by simp [VRelL, VRel], s', p' + (Utf8.decode s' p').2, by simp, rfl⟩ (by rw [h1]; simp) (by rw [h1]; simp)) ?_ (Wd.le_refl _ _) (Nat.le_refl _)
       simp [VRel, VRelL]
      ·rename_i hlt
       have hlt' : decide ((p' : Int) < s'.size) = false := by simpa using hlt
       rw [hlt'] at h
       simp only [ifB] at h
       exact hk _ _ w _ _ h rfl hr (by simp [VRel, VRelL]) (Wd.le_refl _ _) (Nat.le_refl _)
     ·exact h.elim
    ·exact h.elim
   ·exact h.elim
 | idxA g n sz x i =>
   simp only [opE] at h
   have rx := evX_rel he hg0 x
   have ri := evX_rel he hg0 i
   split at h
   ·rename_i vs k ii hx hi
    rw [hx] at rx; rw [hi] at ri
    simp only [VRel] at rx ri
    obtain ⟨as, r1, r2⟩ := rx
    split at h
    ·rename_i hl
     obtain ⟨hb, hsel⟩ := h
     have hF := selE_at n 0 hsel (by omega) (by omega)
     have hin : ii.toNat < n := by omega
     have hmul : (ii.toNat + 1) * sz ≤ n * sz := Nat.mul_le_mul_right _ hin
     simp only [wpA, r1, ri]
     refine ⟨hb.1, hb.2, by rw [r2.length, hl.1]; exact hmul, ?_⟩
     cases g with
     | true =>
       simp only [if_true]
       exact hk _ _ w _ _ hF rfl hr (by simp only [VRel]; exact ⟨_, rfl, (r2.drop _).take _⟩) (Wd.le_refl _ _) (Nat.le_refl _)
     | false =>
       simp only [Bool.false_eq_true, if_false]
       have hF' : if sz = 1 then K (vs.getD ii.toNat .any) st else False := hF
       split at hF'
       ·rename_i h1
        refine ⟨h1, hk _ _ w _ _ hF' rfl hr ?_ (Wd.le_refl _ _) (Nat.le_refl _)⟩
        cases hv : vs[ii.toNat]? with
        | none => simp [List.getD_eq_getElem?_getD, hv, VRel]
        | some u =>
          obtain ⟨a, h3, h4⟩ := r2.get _ hv
          simpa [List.getD_eq_getElem?_getD, hv, h3] using h4
       ·exact hF'.elim
    ·exact h.elim
   ·exact h.elim
 | _ => exact h.elim
theorem lk_rsv (gs : List (Nat × Bool)) (t : Nat) : ∀ env : List (Nat × VV), lk (rsv gs env) t = rsv1 gs (lk env t)
 | [] => rfl
 | (a, x) :: l => by
   simp only [rsv, lk]
   split
   ·rfl
   ·exact lk_rsv gs t l
theorem ER.rsv (he : ER P W w nx env aenv) (hg : GH aenv gs) : ER P W w nx (rsv gs env) aenv := by
 intro t
 rw [lk_rsv]
 have := he t
 generalize lk env t = v at this
 cases v <;> first | exact this | skip
 rename_i hs v
 simp only [rsv1]
 split
 ·rename_i hh
  exact SR_nocnd (this.1 (hg.sub hh))
 ·exact this
theorem gvOf_on (he : ER P W w nx env aenv) {g : Option (Nat × Bool)} {gs : List (Nat × Bool)} (h : gvOf env g = .on gs) :
  ∃ s want, g = some (s, want) ∧ ((∃ b, aenv.get s = .bool b ∧ (b = want ↔ GH aenv gs)) ∨ ((∃ xs, aenv.get s = .tup xs) ∧ ¬ GH aenv gs)) := by
 unfold gvOf at h
 split at h
 ·cases h
 ·rename_i s want
  have hs := he s
  refine ⟨s, want, rfl, ?_⟩
  split at h
  ·rename_i b hb
   cases h
   rw [hb] at hs
   have hs' : aenv.get s = .bool b := by simpa [SR, VRel] using hs
   refine .inl ⟨b, hs', ?_⟩
   constructor
   ·intro hbw g hg
    rw [List.mem_singleton] at hg; subst hg
    rw [hs', hbw]
   ·intro hg
    have := hg (s, want) (by simp)
    rw [hs'] at this; simpa using this
  ·rename_i gs' b hb
   cases h
   rw [hb] at hs
   simp only [SR] at hs
   by_cases hg : GH aenv gs'
   ·have h1 := hs.1 hg
    simp only [VRel] at h1
    refine .inl ⟨b, h1, ?_⟩
    constructor
    ·intro hbw g hg'
     rcases List.mem_cons.1 hg' with rfl | hg'
     ·rw [h1, hbw]
     ·exact hg g hg'
    ·intro hg'
     have := hg' (s, want) (by simp)
     rw [h1] at this; simpa using this
   ·obtain ⟨xs, h1⟩ := hs.2 hg
    exact .inr ⟨⟨xs, h1⟩, fun hg' => hg fun g hgm => hg' g (by simp [hgm])⟩
  ·cases h
  ·cases h
theorem addC_iff {c : Option Prop} {A : Prop} : addC c A ↔ optP c ∧ A := by cases c <;> simp [addC, optP]
theorem addH_iff {c : Option Prop} {A : Prop} : addH c A ↔ (optP c → A) := by cases c <;> simp [addH, optP]
theorem optP_map {c : Option Prop} {A : Prop} : optP (c.map fun c => A → c) ↔ (A → optP c) := by cases c <;> simp [optP]
theorem Env.set_get {d : Option Nat} {a : AV} {ro : List Nat} (h : roHit ro d = false) : ∀ t ∈ ro, (aenv.set d a).get t = aenv.get t := by
 intro t ht
 cases d with
 | none => rfl
 | some d =>
   refine Env.get_put_ne _ _ ?_
   rintro rfl
   simp only [roHit, List.contains_eq_mem, decide_eq_false_iff_not] at h
   exact h ht
theorem wpOE_sound {ro : List Nat} {K : St → Prop} (hΓ : CtxOK P W Γ) : ∀ (ops : List AI) (st : St) (w : Wd) (aenv : Env) (σ : AH), wpOE Γ ro ops st K → ER P W w st.nx st.env aenv → HR P W fr0 w st σ ds → ∀ {K' : Env → AH → Prop},
  (∀ st' w' aenv' σ', K st' → ER P W w' st'.nx st'.env aenv' → HR P W fr0 w' st' σ' ds → Wd.le st.nx w w' → st.nx ≤ st'.nx → (∀ t ∈ ro, aenv'.get t = aenv.get t) → K' aenv' σ') → wpOps P W ops aenv σ K'
 | [], st, w, aenv, σ, h, he, hr, K', hk => hk st w aenv σ h he hr (Wd.le_refl _ _) (Nat.le_refl _) fun _ _ => rfl
 | ai :: r, st, w, aenv, σ, h, he, hr, K', hk => by
   obtain ⟨dst, guard, op⟩ := ai
   simp only [wpOE] at h
   split at h
   ·exact h.elim
   rename_i hro
   have hro' : roHit ro dst = false := by simpa using hro
   have stay := fun a => Env.set_get (aenv := aenv) (a := a) hro'
   have hg0 : GH aenv [] := fun g hg => by cases hg
   -- passed over
   have skip : wpOE Γ ro r { st with env := put st.env dst (.tup []) } K → wpOps P W r (aenv.set dst (.tup [])) σ K' := fun h =>
    wpOE_sound hΓ r _ w _ σ h (he.put (by simp only [VRel]; exact ⟨[], rfl, by simp [VRelL]⟩)) (hr.withEnv _) fun st' w' aenv' σ' h1 h2 h3 h4 h5 h6 =>
     hk st' w' aenv' σ' h1 h2 h3 h4 h5 fun t ht => (h6 t ht).trans (stay _ t ht)
   split at h
   ·rename_i hgv
    have hgn : guard = none := by
     unfold gvOf at hgv
     split at hgv
     ·rfl
     ·split at hgv <;> cases hgv
    subst hgn
    simp only [wpOps]
    split at h
    ·rename_i c hh v hop
     rw [addC_iff, addH_iff] at h
     refine (opOK he hg0 hr.obj hop h.1).1 rfl _ fun a ha hhh => ?_
     exact wpOE_sound hΓ r _ w _ σ (h.2 hhh) (he.put ha) (hr.withEnv _) fun st' w' aenv' σ' h1 h2 h3 h4 h5 h6 => hk st' w' aenv' σ' h1 h2 h3 h4 h5 fun t ht => (h6 t ht).trans (stay _ t ht)
    ·refine opE_sound hΓ he hr h fun v st' w' σ' a h1 h2 h3 h4 h5 h6 => ?_
     rw [h2] at h1
     have he' : ER P W w' st'.nx (put st.env dst v) (aenv.set dst a) := (he.mono h5 h6).put h4
     exact wpOE_sound hΓ r _ w' _ σ' h1 he' (h3.withEnv _) fun st'' w'' aenv'' σ'' k1 k2 k3 k4 k5 k6 =>
      hk st'' w'' aenv'' σ'' k1 k2 k3 (Wd.le_trans h5 k4 h6) (Nat.le_trans h6 k5) fun t ht => (k6 t ht).trans (stay _ t ht)
   ·rename_i hgv
    have : ∃ s want, guard = some (s, want) ∧ ∃ xs, aenv.get s = .tup xs := by
     unfold gvOf at hgv
     split at hgv
     ·cases hgv
     ·rename_i s want
      refine ⟨s, want, rfl, ?_⟩
      split at hgv
      ·cases hgv
      ·cases hgv
      ·rename_i xs hx
       have := he s
       rw [hx] at this
       simp only [SR, VRel] at this
       obtain ⟨as, h1, _⟩ := this
       exact ⟨as, h1⟩
      ·cases hgv
    obtain ⟨s, want, rfl, xs, hx⟩ := this
    simp only [wpOps, hx]
    exact skip h
   ·rename_i gs hgv
    obtain ⟨s, want, rfl, hor⟩ := gvOf_on he hgv
    split at h
    ·rename_i c hh v hop
     rw [addC_iff, optP_map] at h
     obtain ⟨hc, h⟩ := h
     have off : ¬ GH aenv gs → wpOps P W r (aenv.set dst (.tup [])) σ K' := fun hng =>
      wpOE_sound hΓ r _ w _ σ h (he.putC (fun hg => absurd hg hng) (fun _ => ⟨[], rfl⟩)) (hr.withEnv _) fun st' w' aenv' σ' h1 h2 h3 h4 h5 h6 => hk st' w' aenv' σ' h1 h2 h3 h4 h5 fun t ht => (h6 t ht).trans (stay _ t ht)
     rcases hor with ⟨b, hb, hiff⟩ | ⟨⟨xs, hx⟩, hng⟩
     ·simp only [wpOps, hb]
      by_cases hbw : b = want
      ·rw [if_pos hbw]
       have hg := hiff.1 hbw
       have hgp := GP_of he hg gs hg
       refine (opOK' hΓ he hg hr.obj hr.fr hop (hc hgp)).1 rfl _ fun a σ' hσ ha hhh => ?_
       refine wpOE_sound hΓ r _ w _ σ' h (he.putC (fun _ => ha) (fun hn => absurd hg hn)) ((hr.grow hσ).withEnv _) fun st' w' aenv' σ' h1 h2 h3 h4 h5 h6 => hk st' w' aenv' σ' h1 h2 h3 h4 h5 fun t ht => (h6 t ht).trans (stay _ t ht)
      ·rw [if_neg hbw]
       exact off fun hg => hbw (hiff.2 hg)
     ·simp only [wpOps, hx]
      exact off hng
    ·split at h
     ·rename_i s' want' hgv'
      split at h
      ·rename_i b0 hb0
       have off : ¬ GH aenv [(s', want')] → wpOE Γ ro r { st with env := putC st.env dst [(s', want')] (.bool false) } K → wpOps P W r (aenv.set dst (.tup [])) σ K' := fun hng h =>
        wpOE_sound hΓ r _ w _ σ h (he.putC (fun hg => absurd hg hng) (fun _ => ⟨[], rfl⟩)) (hr.withEnv _) fun st' w' aenv' σ' h1 h2 h3 h4 h5 h6 => hk st' w' aenv' σ' h1 h2 h3 h4 h5 fun t ht => (h6 t ht).trans (stay _ t ht)
       have hs' := he s'
       rw [hb0] at hs'
       simp only [SR, VRel] at hs'
       have key : GH aenv [(s', want')] ↔ b0 = want' := by
        simp [GH, hs']
       rcases hor with ⟨b, hb, hiff⟩ | ⟨⟨xs, hx⟩, hng⟩
       ·simp only [wpOps, hb]
        by_cases hbw : b = want
        ·rw [if_pos hbw]
         have hg := hiff.1 hbw
         have he1 : ER P W w st.nx (rsv [(s', want')] st.env) aenv := he.rsv hg
         refine opE_sound hΓ he1 (hr.withEnv _) (h.1 (key.1 hg)) fun v st' w' σ' a h1 h2 h3 h4 h5 h6 => ?_
         rw [h2] at h1
         have he' : ER P W w' st'.nx (put (rsv [(s', want')] st.env) dst v) (aenv.set dst a) := (he1.mono h5 h6).put h4
         exact wpOE_sound hΓ r _ w' _ σ' h1 he' (h3.withEnv _) fun st'' w'' aenv'' σ'' k1 k2 k3 k4 k5 k6 =>
          hk st'' w'' aenv'' σ'' k1 k2 k3 (Wd.le_trans h5 k4 h6) (Nat.le_trans h6 k5) fun t ht => (k6 t ht).trans (stay _ t ht)
        ·rw [if_neg hbw]
         have hng : ¬ GH aenv [(s', want')] := fun hg => hbw (hiff.2 hg)
         refine off hng (h.2 ?_)
         cases b0 <;> cases want' <;> simp_all
       ·simp only [wpOps, hx]
        refine off hng (h.2 ?_)
        cases b0 <;> cases want' <;> simp_all
      ·exact h.elim
     ·exact h.elim
   ·exact h.elim
theorem wpHE_sound {ro : List Nat} {K : St → Prop} (hΓ : CtxOK P W Γ) : ∀ (ops : List AI) (st : St) (aenv : Env), wpHE Γ ro ops st K → ER P W w st.nx st.env aenv → HR P W fr0 w st σ ds → ∀ {K' : Env → Prop},
  (∀ env' aenv', K { st with env := env' } → ER P W w st.nx env' aenv' → (∀ t ∈ ro, aenv'.get t = aenv.get t) → K' aenv') → wpD P W σ ops aenv K'
 | [], st, aenv, h, he, hr, K', hk => hk st.env aenv h he fun _ _ => rfl
 | ai :: r, st, aenv, h, he, hr, K', hk => by
   obtain ⟨dst, guard, op⟩ := ai
   simp only [wpHE] at h
   split at h
   ·exact h.elim
   rename_i hro
   have hro' : roHit ro dst = false := by simpa using hro
   have stay := fun a => Env.set_get (aenv := aenv) (a := a) hro'
   have hg0 : GH aenv [] := fun g hg => by cases hg
   split at h
   ·rename_i zs hnew
    simp only [wpD, hnew]
    exact wpHE_sound hΓ r st aenv h he hr hk
   ·rename_i hnew
    simp only [wpD, hnew]
    have next : ∀ (v : VV) (a : AV) (env' : List (Nat × VV)), wpHE Γ ro r { st with env := env' } K → ER P W w st.nx env' (aenv.set dst a) → wpD P W σ r (aenv.set dst a) K' := fun v a env' h he' =>
     wpHE_sound hΓ r { st with env := env' } _ h he' (hr.withEnv _) fun env'' aenv' k1 k2 k3 => hk env'' aenv' k1 k2 fun t ht => (k3 t ht).trans (stay a t ht)
    split at h
    ·rename_i hgv
     have hgn : guard = none := by
      unfold gvOf at hgv
      split at hgv
      ·rfl
      ·split at hgv <;> cases hgv
     subst hgn
     simp only
     split at h
     ·rename_i c hh v hop
      rw [addC_iff, addC_iff] at h
      refine (opOK' hΓ he hg0 hr.obj hr.fr hop h.1).2 rfl h.2.1 _ fun a ha => ?_
      exact next v a _ h.2.2 (he.put ha)
     ·split at h
      ·rename_i n x i _
       split at h
       ·rename_i vs k ii hx hi
        split at h
        ·rename_i hl
         obtain ⟨hb, hsel⟩ := h
         have rx := evX_rel he hg0 x
         have ri := evX_rel he hg0 i
         rw [hx] at rx; rw [hi] at ri
         simp only [VRel] at rx ri
         obtain ⟨as, r1, r2⟩ := rx
         have hF := selE_at n 0 hsel (by omega) (by omega)
         have hin : ii.toNat < n := by omega
         rw [wpH_plain (by rfl)]
         simp only [wpA, r1, ri, Bool.false_eq_true, if_false]
         refine ⟨hb.1, hb.2, by rw [r2.length, hl]; omega, trivial, ?_⟩
         refine next (vs.getD ii.toNat .any) _ _ hF (he.put ?_)
         cases hv : vs[ii.toNat]? with
         | none => simp [List.getD_eq_getElem?_getD, hv, VRel]
         | some u =>
           obtain ⟨a, h3, h4⟩ := r2.get _ hv
           simpa [List.getD_eq_getElem?_getD, hv, h3] using h4
        ·exact h.elim
       ·exact h.elim
      ·exact h.elim
    ·rename_i hgv
     have : ∃ s want, guard = some (s, want) ∧ ∃ xs, aenv.get s = .tup xs := by
      unfold gvOf at hgv
      split at hgv
      ·cases hgv
      ·rename_i s want
       refine ⟨s, want, rfl, ?_⟩
       split at hgv
       ·cases hgv
       ·cases hgv
       ·rename_i xs hx
        have := he s
        rw [hx] at this
        simp only [SR, VRel] at this
        obtain ⟨as, h1, _⟩ := this
        exact ⟨as, h1⟩
       ·cases hgv
     obtain ⟨s, want, rfl, xs, hx⟩ := this
     simp only [hx]
     exact next (.tup []) _ _ h (he.put (by simp only [VRel]; exact ⟨[], rfl, by simp [VRelL]⟩))
    ·rename_i gs hgv
     obtain ⟨s, want, rfl, hor⟩ := gvOf_on he hgv
     split at h
     ·rename_i c hh v hop
      rw [addC_iff, optP_map, addC_iff, optP_map] at h
      obtain ⟨hc, hh', h⟩ := h
      have off : ¬ GH aenv gs → wpD P W σ r (aenv.set dst (.tup [])) K' := fun hng => next v _ _ h (he.putC (fun hg => absurd hg hng) (fun _ => ⟨[], rfl⟩))
      rcases hor with ⟨b, hb, hiff⟩ | ⟨⟨xs, hx⟩, hng⟩
      ·simp only [hb]
       by_cases hbw : b = want
       ·rw [if_pos hbw]
        have hg := hiff.1 hbw
        have hgp := GP_of he hg gs hg
        refine (opOK' hΓ he hg hr.obj hr.fr hop (hc hgp)).2 rfl (hh' hgp) _ fun a ha => ?_
        exact next v a _ h (he.putC (fun _ => ha) (fun hn => absurd hg hn))
       ·rw [if_neg hbw]
        exact off fun hg => hbw (hiff.2 hg)
      ·simp only [hx]
       exact off hng
     ·exact h.elim
    ·exact h.elim
theorem HR.adopt {b : Nat} {o : LObj} {ao : AObj} (h : HR P W fr0 w st σ ds) (hb : σ b = some ao) (hf : w.fr b = none) (hne : ∀ x o', hlk st.hp x = some o' → w.ρ x ≠ b) (ho : ORel P W w st.nx o ao) :
  ∃ w', Wd.le st.nx w w' ∧ HR P W fr0 w' { st with hp := hpt st.hp st.nx o, nx := st.nx + 1 } σ ds ∧ w'.ρ st.nx = b ∧ w'.fr = w.fr := by
 let w' : Wd := { w with ρ := fun h => if h = st.nx then b else w.ρ h }
 have hle : Wd.le st.nx w w' := ⟨fun x hx => by simp [w', Nat.ne_of_lt hx], fun _ _ => rfl, rfl, AH.le_refl _⟩
 have hρ : ∀ x o', hlk st.hp x = some o' → w'.ρ x = w.ρ x := fun x o' hx => hle.ρ x (h.hlt x o' hx)
 refine ⟨w', hle, ⟨h.fr, h.base, ?_, ?_, ?_, ?_, fun i hi => Nat.lt_succ_of_lt (h.llt i hi), h.live, h.lfr, h.dist, h.nd, h.mrk, h.lrec⟩, by simp [w'], rfl⟩
 ·intro x o' hx
  simp only [hlk_hpt] at hx
  split at hx
  ·rename_i hxn; cases hx; subst hxn
   exact ⟨ao, by simp [w', hb], ho.mono hle (Nat.le_succ _)⟩
  ·obtain ⟨ao', h1, h2⟩ := h.obj x o' hx
   exact ⟨ao', by rw [hρ x o' hx]; exact h1, h2.mono hle (Nat.le_succ _)⟩
 ·intro x o' hx
  simp only [hlk_hpt] at hx
  split at hx
  ·rename_i hxn; simp only [hxn]; omega
  ·have := h.hlt x o' hx; simp only; omega
 ·intro x o' hx
  simp only [hlk_hpt] at hx
  split at hx
  ·rename_i hxn; subst hxn
   show w.fr (if st.nx = st.nx then b else _) = none
   rw [if_pos rfl]; exact hf
  ·rw [hρ x o' hx]; exact h.hfr x o' hx
 ·intro x y o' o'' hx hy he
  simp only [hlk_hpt] at hx hy
  split at hx
  ·rename_i hxn
   split at hy
   ·rename_i hyn; rw [hxn, hyn]
   ·rw [hρ y o'' hy] at he
    have : w'.ρ x = b := by simp [w', hxn]
    exact absurd (he.symm.trans this) (hne y o'' hy)
  ·split at hy
   ·rename_i hyn
    rw [hρ x o' hx] at he
    have : w'.ρ y = b := by simp [w', hyn]
    exact absurd (he.trans this) (hne x o' hx)
   ·rw [hρ x o' hx, hρ y o'' hy] at he
    exact h.inj x y o' o'' hx hy he
theorem newsE_sound {σ₀ τ : AH} {ro : List Nat} {K : St → Prop} : ∀ (l : List (Nat × List AV)) (prev : List Nat) (st : St) (w : Wd) (aenv : Env), newsE l st K → (∀ p ∈ l, ro.contains p.1 = false) → ER P W w st.nx st.env aenv → HR P W fr0 w st τ ds → w.fr.le σ₀ →
  (∀ x o, hlk st.hp x = some o → σ₀ (w.ρ x) ≠ none ∨ w.ρ x ∈ prev) → ∀ {K' : Env → Prop},
  (∀ st' w' aenv', K st' → ER P W w' st'.nx st'.env aenv' → HR P W fr0 w' st' τ ds → Wd.le st.nx w w' → st.nx ≤ st'.nx → (∀ t ∈ ro, aenv'.get t = aenv.get t) → K' aenv') → wpNews σ₀ τ l prev aenv K'
 | [], prev, st, w, aenv, h, _, he, hr, _, _, K', hk => hk st w aenv h he hr (Wd.le_refl _ _) (Nat.le_refl _) fun _ _ => rfl
 | (d, zs) :: l, prev, st, w, aenv, h, hro, he, hr, hf, hp, K', hk => by
   simp only [newsE] at h
   split at h
   ·simp only [wpNews]
    intro b hb hb0 hbp
    obtain ⟨w', h1, h2, h3, h4⟩ := hr.adopt (o := .cells (ofAVs zs)) hb (AH.none_le hf hb0) (fun x o hx => by
     rcases hp x o hx with h5 | h5
     ·rintro rfl; exact h5 hb0
     ·rintro rfl; exact hbp h5) (ORel_cells.2 ⟨zs, rfl, ofAVs_rel zs⟩)
    have he' : ER P W w' (st.nx + 1) (put st.env (some d) (.loc st.nx 0)) (aenv.set (some d) (.ptr b 0)) := (he.mono h1 (Nat.le_succ _)).put (by simp only [VRel]; exact ⟨Nat.lt_succ_self _, by rw [h3]⟩)
    refine newsE_sound l (b :: prev) { st with env := put st.env (some d) (.loc st.nx 0), hp := hpt st.hp st.nx (.cells (ofAVs zs)), nx := st.nx + 1 } w' _ h (fun p hp => hro p (by simp [hp])) he' (h2.withEnv _) (by rw [h4]; exact hf) ?_ fun st' w'' aenv' k1 k2 k3 k4 k5 k6 =>
     hk st' w'' aenv' k1 k2 k3 (Wd.le_trans h1 k4 (Nat.le_succ _)) (Nat.le_trans (Nat.le_succ _) k5) fun t ht => (k6 t ht).trans (Env.get_put_ne _ _ (by
      rintro rfl
      have := hro (t, zs) (by simp)
      simp [ht] at this))
    intro x o hx
    simp only [hlk_hpt] at hx
    split at hx
    ·rename_i hxn; right; rw [hxn, h3]; simp
    ·have : w'.ρ x = w.ρ x := h1.ρ x (hr.hlt x o hx)
     rw [this]
     rcases hp x o hx with h5 | h5
     ·exact .inl h5
     ·exact .inr (by simp [h5])
   ·exact h.elim
end
end Go.AL
namespace Go.AL
open Go.RowKit
set_option linter.unusedVariables false
set_option linter.unusedSimpArgs false
set_option linter.unusedSectionVars false
section
variable [Uni3]
structure LD where
 cs : List Nat
 cts : List Ty
 pts : List (Nat × VV)
 vs : List Nat
 os : List (Nat × OK × List (Option VV))
 vts : List Ty
 own : List Bool
 ro : List Nat
 nx : Nat
mutual
def sameV : VV → VV → Bool
 | .loc h o, .loc h' o' => h == h' && o == o'
 | .fn f a b, .fn f' a' b' => f == f' && sameL a a' && sameL b b'
 | .nilf, .nilf => true
 | .nilp, .nilp => true
 | .nilm, .nilm => true
 | .mp h, .mp h' => h == h'
 | .sl sz h, .sl sz' h' => sz == sz' && h == h'
 | _, _ => false
def sameL : List VV → List VV → Bool
 | [], [] => true
 | x :: xs, y :: ys => sameV x y && sameL xs ys
 | _, _ => false
end
def asTs : (ts : List Ty) → List VV → Option (ElT ts)
 | [], [] => some ()
 | [], _ :: _ => none
 | [t], [v] => asF 8 t v
 | [_], _ => none
 | _ :: _ :: _, [] => none
 | t :: u :: ts, v :: vs => match asF 8 t v with
   | some x => match asTs (u :: ts) vs with
     | some y => some (x, y)
     | none => none
   | none => none
def toVs : (ts : List Ty) → ElT ts → List VV
 | [], _ => []
 | [t], x => [toVV t x]
 | t :: u :: ts, x => toVV t x.1 :: toVs (u :: ts) x.2
def encTs : (ts : List Ty) → ElT ts → List AV
 | [], _ => []
 | [t], x => [encE t x]
 | t :: u :: ts, x => encE t x.1 :: encTs (u :: ts) x.2
def tokOf : VV → VTok
 | .lst _ _ tk => tk
 | .vls _ _ tk => tk
 | _ => .none
def takeToks : List Nat → List Bool → List VV → Option (List Nat)
 | live, [], _ => some live
 | live, _ :: _, [] => some live
 | live, false :: bs, _ :: vs => takeToks live bs vs
 | live, true :: bs, v :: vs => match tokOf v with
   | .clip => takeToks live bs vs
   | .own id => if live.contains id then takeToks (live.filter fun j => j != id) bs vs else none
   | .none => none
def setTok (id : Nat) : VV → VV
 | .lst t l _ => .lst t l (.own id)
 | v => v
def ownVs : Nat → List Bool → List VV → List VV
 | _, [], vs => vs
 | _, _ :: _, [] => []
 | n, true :: bs, v :: vs => setTok n v :: ownVs (n + 1) bs vs
 | n, false :: bs, v :: vs => v :: ownVs (n + 1) bs vs
def ownIds : Nat → List Bool → List Nat
 | _, [] => []
 | n, true :: bs => n :: ownIds (n + 1) bs
 | n, false :: bs => ownIds (n + 1) bs
mutual
def hOk (n : Nat) : VV → Bool
 | .loc h _ => decide (h < n)
 | .fn _ a b => hOkL n a && hOkL n b
 | .mp h => decide (h < n)
 | .sl _ h => decide (h < n)
 | .nilf | .nilp | .nilm => true
 | _ => false
def hOkL (n : Nat) : List VV → Bool
 | [] => true
 | x :: xs => hOk n x && hOkL n xs
end
mutual
def hasSl : VV → Bool
 | .sl _ _ => true
 | .fn _ a b => hasSlL a || hasSlL b
 | _ => false
def hasSlL : List VV → Bool
 | [] => false
 | x :: xs => hasSl x || hasSlL xs
end
def shSl (sh : List (Option VV)) : Bool := sh.any fun o => match o with | some c => hasSl c | none => false
def LD.hasSl (d : LD) : Bool := d.pts.any (fun p => AL.hasSl p.2) || d.os.any (fun p => shSl p.2.2)
def objVs (n : Nat) : List (Option VV) → List VV → Option (List VV)
 | [], [] => some []
 | none :: r, v :: vs => match objVs n r vs with
   | some l => some (v :: l)
   | none => none
 | some c :: r, v :: vs => if sameV v c = true ∧ hOk n c = true then objVs n r vs else none
 | _, _ => none
def objFill : List (Option VV) → List VV → List VV
 | [], _ => []
 | none :: r, v :: vs => v :: objFill r vs
 | none :: r, [] => .any :: objFill r []
 | some c :: r, vs => c :: objFill r vs
def nVars : List (Option VV) → Nat
 | [] => 0
 | none :: r => nVars r + 1
 | some _ :: r => nVars r
def gatherO (n : Nat) (hp : List (Nat × LObj)) : List (Nat × OK × List (Option VV)) → Option (List VV)
 | [] => some []
 | (h, k, sh) :: r => match hlk hp h with
   | some (.ob k' vs) => if k' = k then match objVs n sh vs, gatherO n hp r with
     | some a, some b => some (a ++ b)
     | _, _ => none
     else none
   | none => none
def fillO : List (Nat × OK × List (Option VV)) → List VV → List (Nat × LObj)
 | [], _ => []
 | (h, k, sh) :: r, vs => (h, .ob k (objFill sh vs)) :: fillO r (vs.drop (nVars sh))
def LD.dec (d : LD) (st : St) : Option (ElT d.vts × List Nat) :=
 match gatherO d.nx st.hp d.os with
 | some os => match asTs d.vts (d.vs.map (lk st.env) ++ os), takeToks st.live d.own (d.vs.map (lk st.env) ++ os) with
   | some s, some live => some (s, live)
   | _, _ => none
 | none => none
def LD.decC (d : LD) (st : St) : Option (ElT d.cts) := asTs d.cts (d.cs.map (lk st.env))
def LD.body (d : LD) (c : ElT d.cts) (s : ElT d.vts) : St :=
 { env := d.cs.zip (toVs d.cts c) ++ d.pts ++ d.vs.zip (ownVs d.nx d.own (toVs d.vts s)),
   hp := fillO d.os ((ownVs d.nx d.own (toVs d.vts s)).drop d.vs.length),
   live := ownIds d.nx d.own, nx := d.nx + d.own.length }
def VV.isCnd : VV → Bool
 | .cnd _ _ => true
 | _ => false
def LD.after (d : LD) (st : St) (live : List Nat) (s : ElT d.vts) : St :=
 { env := d.vs.zip (ownVs d.nx d.own (toVs d.vts s)) ++ d.ro.map (fun t => (t, nocnd (lk st.env t))),
   hp := fillO d.os ((ownVs d.nx d.own (toVs d.vts s)).drop d.vs.length) ++ st.hp.filter (fun p => !(d.os.map (·.1)).contains p.1),
   live := ownIds d.nx d.own ++ live, nx := d.nx + d.own.length }
def LD.ok (d : LD) : Bool := d.pts.all (fun p => hOk d.nx p.2) && d.os.all (fun p => decide (p.1 < d.nx)) && decide (d.own.length = d.vts.length) && d.cs.all d.ro.contains && d.pts.all (fun p => d.ro.contains p.1) && d.vs.all (fun t => !d.ro.contains t)
def LD.chk (d : LD) (ro : List Nat) (st : St) : Bool :=
 d.ok && decide (st.nx ≤ d.nx) && d.pts.all (fun p => sameV (lk st.env p.1) p.2) && ro.all d.ro.contains
variable {P : Program} {W : World} {fr0 : F0} {w w' : Wd} {st : St} {σ σ' : AH} {ds : List Nat} {nx nx' : Nat} {aenv : Env}
mutual
theorem sameV_eq : ∀ (u v : VV), sameV u v = true → u = v
 | .loc h o, v, e => by
   cases v <;> simp only [sameV, Bool.false_eq_true, Bool.and_eq_true, beq_iff_eq] at e
   rw [e.1, e.2]
 | .fn f a b, v, e => by
   cases v <;> simp only [sameV, Bool.false_eq_true, Bool.and_eq_true, beq_iff_eq] at e
   rw [e.1.1, sameL_eq a _ e.1.2, sameL_eq b _ e.2]
 | .nilf, v, e => by cases v <;> simp only [sameV, Bool.false_eq_true] at e; rfl
 | .nilp, v, e => by cases v <;> simp only [sameV, Bool.false_eq_true] at e; rfl
 | .int _ _, v, e => by simp [sameV] at e
 | .bool _, v, e => by simp [sameV] at e
 | .str _, v, e => by simp [sameV] at e
 | .el _ _, v, e => by simp [sameV] at e
 | .agg _, v, e => by simp [sameV] at e
 | .lst _ _ _, v, e => by simp [sameV] at e
 | .vls _ _ _, v, e => by simp [sameV] at e
 | .pel _, v, e => by simp [sameV] at e
 | .pw _ _, v, e => by simp [sameV] at e
 | .nilm, v, e => by cases v <;> simp only [sameV, Bool.false_eq_true] at e; rfl
 | .mp h, v, e => by
   cases v <;> simp only [sameV, Bool.false_eq_true, beq_iff_eq] at e
   rw [e]
 | .sl sz h, v, e => by
   cases v <;> simp only [sameV, Bool.false_eq_true, Bool.and_eq_true, beq_iff_eq] at e
   rw [e.1, e.2]
 | .pe _ _ _ _, v, e => by simp [sameV] at e
 | .pa _ _ _ _, v, e => by simp [sameV] at e
 | .ext _, v, e => by simp [sameV] at e
 | .iter _ _, v, e => by simp [sameV] at e
 | .tup _, v, e => by simp [sameV] at e
 | .cnd _ _, v, e => by simp [sameV] at e
 | .any, v, e => by simp [sameV] at e
theorem sameL_eq : ∀ (u v : List VV), sameL u v = true → u = v
 | [], v, e => by cases v <;> simp only [sameL, Bool.false_eq_true] at e; rfl
 | x :: xs, v, e => by
   cases v with
   | nil => simp [sameL] at e
   | cons y ys =>
     simp only [sameL, Bool.and_eq_true] at e
     rw [sameV_eq x y e.1, sameL_eq xs ys e.2]
end
theorem SR_plain {v : VV} {a : AV} (hv : v.isCnd = false) : SR P W w nx aenv v a ↔ VRel P W w nx v a := by
 cases v <;> first | exact Iff.rfl | cases hv
theorem asTs_rel : ∀ (ts : List Ty) (vs : List VV) (x : ElT ts) (as : List AV), asTs ts vs = some x → VRelL P W w nx vs as → as.map AV.bare = encTs ts x
 | [], [], x, as, h, hr => by simp only [VRelL] at hr; subst hr; rfl
 | [], _ :: _, x, as, h, hr => by simp [asTs] at h
 | [t], [v], x, as, h, hr => by
   simp only [VRelL] at hr
   obtain ⟨a, r, rfl, h1, rfl⟩ := hr
   simp only [encTs, List.map_cons, List.map_nil]
   rw [asF_rel 8 t v x a h h1]
 | [t], [], x, as, h, hr => by simp [asTs] at h
 | [t], _ :: _ :: _, x, as, h, hr => by simp [asTs] at h
 | _ :: _ :: _, [], x, as, h, hr => by simp [asTs] at h
 | t :: u :: ts, v :: vs, x, as, h, hr => by
   simp only [asTs] at h
   split at h
   ·rename_i y hy
    split at h
    ·rename_i z hz
     cases h
     simp only [VRelL] at hr
     obtain ⟨a, r, rfl, h1, h2⟩ := hr
     simp only [encTs, List.map_cons]
     rw [asF_rel 8 t v y a hy h1, asTs_rel (u :: ts) vs z r hz h2]
    ·cases h
   ·cases h
theorem toVs_rel : ∀ (ts : List Ty) (x : ElT ts) (as : List AV), as.map AV.bare = encTs ts x → VRelL P W w nx (toVs ts x) as
 | [], x, as, h => by simp only [encTs, List.map_eq_nil_iff] at h; subst h; simp [toVs, VRelL]
 | [t], x, as, h => by
   match as, h with
   | [a], h =>
     simp only [encTs, List.map_cons, List.map_nil, List.cons.injEq, and_true] at h
     simp only [toVs, VRelL]
     exact ⟨a, [], rfl, toVV_rel h, rfl⟩
   | [], h => simp [encTs] at h
   | _ :: _ :: _, h => simp [encTs] at h
 | t :: u :: ts, x, as, h => by
   match as, h with
   | [], h => simp [encTs] at h
   | a :: as, h =>
     simp only [encTs, List.map_cons, List.cons.injEq] at h
     simp only [toVs, VRelL]
     exact ⟨a, as, rfl, toVV_rel h.1, toVs_rel (u :: ts) x.2 as h.2⟩
theorem toVs_cnd : ∀ (ts : List Ty) (x : ElT ts), ∀ v ∈ toVs ts x, v.isCnd = false
 | [], x, v, h => by simp [toVs] at h
 | [t], x, v, h => by
   simp only [toVs, List.mem_singleton] at h
   subst h; cases t <;> rfl
 | t :: u :: ts, x, v, h => by
   simp only [toVs, List.mem_cons] at h
   rcases h with rfl | h
   ·cases t <;> rfl
   ·exact toVs_cnd (u :: ts) x.2 v h
theorem ownVs_cnd : ∀ (bs : List Bool) (n : Nat) (vs : List VV), (∀ v ∈ vs, v.isCnd = false) → ∀ v ∈ ownVs n bs vs, v.isCnd = false
 | [], n, vs, h, v, hv => h v hv
 | _ :: _, n, [], h, v, hv => by simp [ownVs] at hv
 | true :: bs, n, u :: vs, h, v, hv => by
   simp only [ownVs, List.mem_cons] at hv
   rcases hv with rfl | hv
   ·have := h u (by simp)
    cases u <;> first | rfl | cases this
   ·exact ownVs_cnd bs (n + 1) vs (fun v hv => h v (by simp [hv])) v hv
 | false :: bs, n, u :: vs, h, v, hv => by
   simp only [ownVs, List.mem_cons] at hv
   rcases hv with rfl | hv
   ·exact h _ (by simp)
   ·exact ownVs_cnd bs (n + 1) vs (fun v hv => h v (by simp [hv])) v hv
def avTok : AV → Tok
 | .lst _ _ t => t
 | _ => .none
theorem mem_ownIds : ∀ (bs : List Bool) (n id : Nat), id ∈ ownIds n bs ↔ ∃ i, id = n + i ∧ bs.getD i false = true
 | [], n, id => by simp [ownIds]
 | true :: bs, n, id => by
   simp only [ownIds, List.mem_cons, mem_ownIds bs (n + 1) id]
   constructor
   ·rintro (rfl | ⟨i, rfl, h⟩)
    ·exact ⟨0, by simp, rfl⟩
    ·exact ⟨i + 1, by omega, h⟩
   ·rintro ⟨i, rfl, h⟩
    cases i with
    | zero => exact .inl (by simp)
    | succ i => exact .inr ⟨i, by omega, h⟩
 | false :: bs, n, id => by
   simp only [ownIds, mem_ownIds bs (n + 1) id]
   constructor
   ·rintro ⟨i, rfl, h⟩; exact ⟨i + 1, by omega, h⟩
   ·rintro ⟨i, rfl, h⟩
    cases i with
    | zero => simp at h
    | succ i => exact ⟨i, by omega, h⟩
structure Toks (w : Wd) (live live' : List Nat) (bs : List Bool) (as : List AV) : Prop where
 sub : ∀ j ∈ live', j ∈ live
 src : ∀ i, bs.getD i false = true → i < as.length → avTok (as.getD i .any) = .clip ∨ ∃ id ∈ live, id ∉ live' ∧ avTok (as.getD i .any) = w.tk id
 pair : ∀ i j, i ≠ j → bs.getD i false = true → bs.getD j false = true → i < as.length → j < as.length → ∀ c, (avTok (as.getD i .any)).isOn c = true → (avTok (as.getD j .any)).isOn c = false
theorem takeToks_rel {L : List Nat} (hdist : ∀ i ∈ L, ∀ j ∈ L, i ≠ j → ∀ c, (w.tk i).isOn c = true → (w.tk j).isOn c = false) :
  ∀ (bs : List Bool) (vs : List VV) (as : List AV) (live live' : List Nat), (∀ j ∈ live, j ∈ L) → takeToks live bs vs = some live' → VRelL P W w nx vs as → Toks w live live' bs as
 | [], vs, as, live, live', hL, h, hr => by
   simp only [takeToks, Option.some.injEq] at h; subst h
   exact ⟨fun j hj => hj, fun i hi => by simp at hi, fun i j _ hi => by simp at hi⟩
 | b :: bs, [], as, live, live', hL, h, hr => by
   simp only [takeToks, Option.some.injEq] at h; subst h
   simp only [VRelL] at hr; subst hr
   exact ⟨fun j hj => hj, fun i _ hi => by simp at hi, fun i j _ _ _ hi => by simp at hi⟩
 | false :: bs, v :: vs, as, live, live', hL, h, hr => by
   simp only [takeToks] at h
   simp only [VRelL] at hr
   obtain ⟨a, r, rfl, h1, h2⟩ := hr
   have ih := takeToks_rel hdist bs vs r live live' hL h h2
   refine ⟨ih.sub, fun i hi hl => ?_, fun i j hij hi hj hl hm c hc => ?_⟩
   ·cases i with
    | zero => simp at hi
    | succ i => exact ih.src i hi (by simpa using hl)
   ·cases i with
    | zero => simp at hi
    | succ i =>
      cases j with
      | zero => simp at hj
      | succ j => exact ih.pair i j (by omega) hi hj (by simpa using hl) (by simpa using hm) c hc
 | true :: bs, v :: vs, as, live, live', hL, h, hr => by
   simp only [takeToks] at h
   simp only [VRelL] at hr
   obtain ⟨a, r, rfl, h1, h2⟩ := hr
   have htok : TokR w nx (tokOf v) (avTok a) ∨ tokOf v = .none := by
    cases v with
    | lst t l tk => simp only [VRel] at h1; obtain ⟨tok, rfl, h1⟩ := h1; exact .inl h1
    | vls sz xs tk => simp only [VRel] at h1; obtain ⟨ys, tok, rfl, _, h1⟩ := h1; exact .inl h1
    | _ => exact .inr rfl
   split at h
   ·rename_i ht
    have hclip : avTok a = .clip := by
     rcases htok with h3 | h3
     ·rw [ht] at h3; exact h3
     ·rw [ht] at h3; cases h3
    have ih := takeToks_rel hdist bs vs r live live' hL h h2
    refine ⟨ih.sub, fun i hi hl => ?_, fun i j hij hi hj hl hm c hc => ?_⟩
    ·cases i with
     | zero => exact .inl (by simpa using hclip)
     | succ i => exact ih.src i hi (by simpa using hl)
    ·cases i with
     | zero => simp [hclip, Tok.isOn] at hc
     | succ i =>
       cases j with
       | zero => simp [hclip, Tok.isOn]
       | succ j => exact ih.pair i j (by omega) hi hj (by simpa using hl) (by simpa using hm) c hc
   ·rename_i id ht
    split at h
    ·rename_i hc
     have hid : id ∈ live := by simpa using hc
     have htk : avTok a = w.tk id := by
      rcases htok with h3 | h3
      ·rw [ht] at h3; exact h3.2
      ·rw [ht] at h3; cases h3
     have hfil : ∀ j, j ∈ live.filter (fun j => j != id) ↔ j ∈ live ∧ j ≠ id := fun j => by simp
     have ih := takeToks_rel hdist bs vs r _ live' (fun j hj => hL j ((hfil j).1 hj).1) h h2
     have key : ∀ i, bs.getD i false = true → i < r.length → ∀ c, (avTok (r.getD i .any)).isOn c = true → (w.tk id).isOn c = true → False := fun i hi hl c h4 h5 => by
      rcases ih.src i hi hl with h6 | ⟨id', h6, _, h7⟩
      ·rw [h6] at h4; cases h4
      ·rw [h7] at h4
       have h8 := (hfil id').1 h6
       have := hdist id' (hL _ h8.1) id (hL _ hid) h8.2 c h4
       rw [this] at h5; cases h5
     refine ⟨fun j hj => ((hfil j).1 (ih.sub j hj)).1, fun i hi hl => ?_, fun i j hij hi hj hl hm c hc => ?_⟩
     ·cases i with
      | zero => exact .inr ⟨id, hid, fun hc => ((hfil id).1 (ih.sub id hc)).2 rfl, by simpa using htk⟩
      | succ i =>
        rcases ih.src i hi (by simpa using hl) with h4 | ⟨id', h4, h5, h6⟩
        ·exact .inl h4
        ·exact .inr ⟨id', ((hfil id').1 h4).1, h5, h6⟩
     ·cases i with
      | zero =>
        cases j with
        | zero => exact absurd rfl hij
        | succ j =>
          cases hx : (avTok ((a :: r).getD (j + 1) .any)).isOn c with
          | false => rfl
          | true => exact (key j hj (by simpa using hm) c (by simpa using hx) (by rw [← htk]; simpa using hc)).elim
      | succ i =>
        cases j with
        | zero =>
          cases hx : (avTok ((a :: r).getD 0 .any)).isOn c with
          | false => rfl
          | true => exact (key i hi (by simpa using hl) c (by simpa using hc) (by rw [← htk]; simpa using hx)).elim
        | succ j => exact ih.pair i j (by omega) hi hj (by simpa using hl) (by simpa using hm) c hc
    ·cases h
   ·cases h
theorem ownVs_rel : ∀ (bs : List Bool) (n : Nat) (vs : List VV) (as : List AV), VRelL P W w nx vs as → (∀ i, bs.getD i false = true → i < as.length → n + i < nx ∧ w.tk (n + i) = avTok (as.getD i .any)) → VRelL P W w nx (ownVs n bs vs) as
 | [], n, vs, as, h, _ => h
 | _ :: _, n, [], as, h, _ => h
 | b :: bs, n, v :: vs, as, h, hk => by
   simp only [VRelL] at h
   obtain ⟨a, r, rfl, h1, h2⟩ := h
   have ih := ownVs_rel bs (n + 1) vs r h2 fun i hi hl => by
    have := hk (i + 1) hi (by simpa using hl)
    rw [show n + 1 + i = n + (i + 1) by omega]
    exact this
   cases b with
   | false => simp only [ownVs, VRelL]; exact ⟨a, r, rfl, h1, ih⟩
   | true =>
     simp only [ownVs, VRelL]
     refine ⟨a, r, rfl, ?_, ih⟩
     have h0 := hk 0 rfl (by simp)
     cases v with
     | lst t l tk =>
       simp only [VRel] at h1
       obtain ⟨tok, rfl, _⟩ := h1
       simp only [setTok, VRel]
       exact ⟨tok, rfl, by simpa using h0.1, by simpa [avTok] using h0.2.symm⟩
     | _ => exact h1
mutual
theorem hOk_rel {n : Nat} (hρ : ∀ h, h < n → w'.ρ h = w.ρ h) (hn : n ≤ nx') : ∀ (v : VV) {a : AV}, (hasSl v = true → ∀ h, h < n → w'.tk h = w.tk h) → hOk n v = true → VRel P W w nx v a → VRel P W w' nx' v a
 | .loc h o, a, ht, e, k => by
   simp only [hOk, decide_eq_true_eq] at e
   simp only [VRel] at k ⊢
   exact ⟨by omega, by rw [hρ h e]; exact k.2⟩
 | .fn f x y, a, ht, e, k => by
   simp only [hOk, Bool.and_eq_true] at e
   simp only [VRel] at k ⊢
   obtain ⟨as, bs, rfl, k1, k2⟩ := k
   exact ⟨as, bs, rfl, hOkL_rel hρ hn x (fun q => ht (by simp [hasSl, q])) e.1 k1, hOkL_rel hρ hn y (fun q => ht (by simp [hasSl, q])) e.2 k2⟩
 | .sl sz h, a, ht, e, k => by
   simp only [hOk, decide_eq_true_eq] at e
   simp only [VRel] at k ⊢
   rw [hρ h e, ht rfl h e]
   exact ⟨by omega, k.2⟩
 | .pe _ _ _ _, a, ht, e, k => by simp [hOk] at e
 | .pa _ _ _ _, a, ht, e, k => by simp [hOk] at e
 | .nilf, a, ht, e, k => by simp only [VRel] at k ⊢; exact k
 | .nilp, a, ht, e, k => by simp only [VRel] at k ⊢; exact k
 | .int _ _, a, ht, e, k => by simp [hOk] at e
 | .bool _, a, ht, e, k => by simp [hOk] at e
 | .str _, a, ht, e, k => by simp [hOk] at e
 | .el _ _, a, ht, e, k => by simp [hOk] at e
 | .agg _, a, ht, e, k => by simp [hOk] at e
 | .lst _ _ _, a, ht, e, k => by simp [hOk] at e
 | .vls _ _ _, a, ht, e, k => by simp [hOk] at e
 | .pel _, a, ht, e, k => by simp [hOk] at e
 | .pw _ _, a, ht, e, k => by simp [hOk] at e
 | .nilm, a, ht, e, k => by simp only [VRel] at k ⊢; exact k
 | .mp h, a, ht, e, k => by
   simp only [hOk, decide_eq_true_eq] at e
   simp only [VRel] at k ⊢
   exact ⟨by omega, by rw [hρ h e]; exact k.2⟩
 | .ext _, a, ht, e, k => by simp [hOk] at e
 | .iter _ _, a, ht, e, k => by simp [hOk] at e
 | .tup _, a, ht, e, k => by simp [hOk] at e
 | .cnd _ _, a, ht, e, k => by simp [hOk] at e
 | .any, a, ht, e, k => by simp [hOk] at e
theorem hOkL_rel {n : Nat} (hρ : ∀ h, h < n → w'.ρ h = w.ρ h) (hn : n ≤ nx') : ∀ (v : List VV) {a : List AV}, (hasSlL v = true → ∀ h, h < n → w'.tk h = w.tk h) → hOkL n v = true → VRelL P W w nx v a → VRelL P W w' nx' v a
 | [], a, ht, e, k => by simp only [VRelL] at k ⊢; exact k
 | x :: xs, a, ht, e, k => by
   simp only [hOkL, Bool.and_eq_true] at e
   simp only [VRelL] at k ⊢
   obtain ⟨b, r, rfl, k1, k2⟩ := k
   exact ⟨b, r, rfl, hOk_rel hρ hn x (fun q => ht (by simp [hasSlL, q])) e.1 k1, hOkL_rel hρ hn xs (fun q => ht (by simp [hasSlL, q])) e.2 k2⟩
end
theorem hOk_cnd {n : Nat} {v : VV} (h : hOk n v = true) : v.isCnd = false := by
 cases v <;> first | rfl | simp [hOk] at h
theorem objVs_rel {n : Nat} : ∀ (sh : List (Option VV)) (vs ov : List VV) (as : List AV), objVs n sh vs = some ov → VRelL P W w nx vs as →
  ∃ bs, VRelL P W w nx ov bs ∧ bs.length = nVars sh ∧ ∀ (w' : Wd) (nx' : Nat) (vals : List VV) (cs : List AV), (∀ h, h < n → w'.ρ h = w.ρ h) → (shSl sh = true → ∀ h, h < n → w'.tk h = w.tk h) → n ≤ nx' → VRelL P W w' nx' vals (bs ++ cs) → VRelL P W w' nx' (objFill sh vals) as
 | [], [], ov, as, h, hr => by
   cases h
   simp only [VRelL] at hr; subst hr
   exact ⟨[], by simp [VRelL], rfl, fun _ _ _ _ _ _ _ _ => by simp [objFill, VRelL]⟩
 | [], _ :: _, ov, as, h, hr => by simp [objVs] at h
 | none :: sh, [], ov, as, h, hr => by simp [objVs] at h
 | some _ :: sh, [], ov, as, h, hr => by simp [objVs] at h
 | none :: sh, v :: vs, ov, as, h, hr => by
   simp only [objVs] at h
   split at h
   ·rename_i l hl
    cases h
    simp only [VRelL] at hr
    obtain ⟨a, r, rfl, h1, h2⟩ := hr
    obtain ⟨bs, k1, k2, k3⟩ := objVs_rel sh vs l r hl h2
    refine ⟨a :: bs, by simp only [VRelL]; exact ⟨a, bs, rfl, h1, k1⟩, by simp [nVars, k2], fun w' nx' vals cs hw ht hn hv => ?_⟩
    cases vals with
    | nil => simp [VRelL] at hv
    | cons u vals =>
      simp only [List.cons_append, VRelL] at hv
      obtain ⟨a', r', he, h3, h4⟩ := hv
      cases he
      simp only [objFill, VRelL]
      exact ⟨a, r, rfl, h3, k3 w' nx' vals cs hw (fun q => ht (by simpa [shSl] using q)) hn h4⟩
   ·cases h
 | some c :: sh, v :: vs, ov, as, h, hr => by
   simp only [objVs] at h
   split at h
   ·rename_i hs
    have := sameV_eq v c hs.1
    subst this
    simp only [VRelL] at hr
    obtain ⟨a, r, rfl, h1, h2⟩ := hr
    obtain ⟨bs, k1, k2, k3⟩ := objVs_rel sh vs ov r h h2
    refine ⟨bs, k1, by simp [nVars, k2], fun w' nx' vals cs hw ht hn hv => ?_⟩
    simp only [objFill, VRelL]
    exact ⟨a, r, rfl, hOk_rel hw hn v (fun q => ht (by simp [shSl, q])) hs.2 h1, k3 w' nx' vals cs hw (fun q => ht (by simp only [shSl, List.any_cons, Bool.or_eq_true]; exact .inr q)) hn hv⟩
   ·cases h
theorem gatherO_rel {n : Nat} {hp : List (Nat × LObj)} (hh : HO P W w nx hp σ) : ∀ (os : List (Nat × OK × List (Option VV))) (ov : List VV), gatherO n hp os = some ov →
  ∃ bs, VRelL P W w nx ov bs ∧ ∀ (w' : Wd) (nx' : Nat) (vals : List VV) (cs : List AV), (∀ h, h < n → w'.ρ h = w.ρ h) → (os.any (fun p => shSl p.2.2) = true → ∀ h, h < n → w'.tk h = w.tk h) → n ≤ nx' → VRelL P W w' nx' vals (bs ++ cs) →
    ∀ p ∈ fillO os vals, p.1 ∈ os.map (·.1) ∧ (∃ o, hlk hp p.1 = some o) ∧ ∃ ao, σ (w.ρ p.1) = some ao ∧ ORel P W w' nx' p.2 ao
 | [], ov, h => by
   cases h
   exact ⟨[], by simp [VRelL], fun _ _ _ _ _ _ _ _ p hp => by simp [fillO] at hp⟩
 | (hd, kd, sh) :: os, ov, h => by
   simp only [gatherO] at h
   split at h
   ·rename_i k' vs hvs
    split at h
    ·rename_i hkk
     subst hkk
     split at h
     ·rename_i x y hx hy
      cases h
      obtain ⟨ao, h1, as, h2, h3⟩ := hh _ _ hvs
      obtain ⟨bs, k1, k2, k3⟩ := objVs_rel sh vs x as hx h2
      obtain ⟨bs', l1, l2⟩ := gatherO_rel hh os y hy
      refine ⟨bs ++ bs', k1.append l1, fun w' nx' vals cs hw ht hn hv p hp => ?_⟩
      simp only [fillO, List.mem_cons] at hp
      rcases hp with rfl | hp
      ·refine ⟨by simp, ⟨_, hvs⟩, _, h1, as, ?_, h3⟩
       exact k3 w' nx' vals (bs' ++ cs) hw (fun q => ht (by simp [q])) hn (by rw [← List.append_assoc]; exact hv)
      ·have hv' : VRelL P W w' nx' (vals.drop (nVars sh)) (bs' ++ cs) := by
        have := hv.drop (nVars sh)
        rw [List.append_assoc, ← k2, List.drop_left] at this
        rw [← k2]; exact this
       obtain ⟨m1, m2, m3⟩ := l2 w' nx' _ cs hw (fun q => ht (by simp only [List.any_cons, Bool.or_eq_true]; exact .inr q)) hn hv' p hp
       exact ⟨by simp only [List.map_cons, List.mem_cons]; exact .inr m1, m2, m3⟩
     ·cases h
    ·cases h
   ·cases h
theorem ER_of {env : List (Nat × VV)} (h : ∀ p ∈ env, SR P W w nx aenv p.2 (aenv.get p.1)) : ER P W w nx env aenv := by
 intro t
 have : ∀ (env : List (Nat × VV)), (lk env t = .any) ∨ ∃ p ∈ env, p.1 = t ∧ lk env t = p.2 := by
  intro env
  induction env with
  | nil => exact .inl rfl
  | cons p env ih =>
    by_cases hp : p.1 = t
    ·exact .inr ⟨p, by simp, hp, by simp [lk, hp]⟩
    ·have e : lk (p :: env) t = lk env t := by simp [lk, hp]
     rw [e]
     rcases ih with h1 | ⟨q, h1, h2, h3⟩
     ·exact .inl h1
     ·exact .inr ⟨q, by simp [h1], h2, h3⟩
 rcases this env with h1 | ⟨p, h1, rfl, h3⟩
 ·rw [h1]; simp [SR, VRel]
 ·rw [h3]; exact h p h1
theorem hlk_mem {hp : List (Nat × LObj)} {h : Nat} {o : LObj} (hx : hlk hp h = some o) : (h, o) ∈ hp := by
 induction hp with
 | nil => simp [hlk] at hx
 | cons p hp ih =>
   obtain ⟨a, x⟩ := p
   simp only [hlk] at hx
   split at hx
   ·rename_i ha; cases hx; subst ha; simp
   ·simp [ih hx]
theorem VRelL_zip : ∀ (ts : List Nat) (vs : List VV), VRelL P W w nx vs (ts.map aenv.get) ∨ True → (∀ v ∈ vs, v.isCnd = false) → (∀ (i : Nat) t v, ts[i]? = some t → vs[i]? = some v → VRel P W w nx v (aenv.get t)) → ∀ p ∈ ts.zip vs, SR P W w nx aenv p.2 (aenv.get p.1)
 | ts, vs, _, hc, h, p, hp => by
   obtain ⟨i, hi, he⟩ := List.getElem_of_mem hp
   rw [List.getElem_zip] at he
   subst he
   rw [List.length_zip] at hi
   have h1 : i < ts.length := by omega
   have h2 : i < vs.length := by omega
   exact (SR_plain (hc _ (List.getElem_mem _))).2 (h i _ _ (by simp [h1]) (by simp [h2]))
end
end Go.AL
namespace Go.AL
open Go.RowKit Classical
set_option linter.unusedVariables false
set_option linter.unusedSimpArgs false
set_option linter.unusedSectionVars false
section
variable [Uni3] {P : Program} {W : World} {fr0 : F0} {w w' : Wd} {st : St} {σ σ' : AH} {ds : List Nat} {nx nx' : Nat} {aenv : Env}
def VV.flat : VV → Bool
 | .int .. | .bool _ | .str _ | .el .. | .lst .. | .any => true
 | _ => false
theorem toVV_flat (t : Ty) (x : El t) : (toVV t x).flat = true := by cases t <;> rfl
theorem toVs_flat : ∀ (ts : List Ty) (x : ElT ts), ∀ v ∈ toVs ts x, v.flat = true
 | [], x, v, h => by simp [toVs] at h
 | [t], x, v, h => by
   simp only [toVs, List.mem_singleton] at h
   subst h; exact toVV_flat _ _
 | t :: u :: ts, x, v, h => by
   simp only [toVs, List.mem_cons] at h
   rcases h with rfl | h
   ·exact toVV_flat _ _
   ·exact toVs_flat (u :: ts) x.2 v h
theorem ownVs_flat : ∀ (bs : List Bool) (n : Nat) (vs : List VV), (∀ v ∈ vs, v.flat = true) → ∀ v ∈ ownVs n bs vs, v.flat = true
 | [], n, vs, h, v, hv => h v hv
 | _ :: _, n, [], h, v, hv => by simp [ownVs] at hv
 | true :: bs, n, u :: vs, h, v, hv => by
   simp only [ownVs, List.mem_cons] at hv
   rcases hv with rfl | hv
   ·have := h u (by simp)
    cases u <;> first | rfl | cases this
   ·exact ownVs_flat bs (n + 1) vs (fun v hv => h v (by simp [hv])) v hv
 | false :: bs, n, u :: vs, h, v, hv => by
   simp only [ownVs, List.mem_cons] at hv
   rcases hv with rfl | hv
   ·exact h _ (by simp)
   ·exact ownVs_flat bs (n + 1) vs (fun v hv => h v (by simp [hv])) v hv
structure LDok (d : LD) : Prop where
 pts : ∀ p ∈ d.pts, hOk d.nx p.2 = true ∧ p.1 ∈ d.ro
 os : ∀ p ∈ d.os, p.1 < d.nx
 own : d.own.length = d.vts.length
 cs : ∀ t ∈ d.cs, t ∈ d.ro
 vs : ∀ t ∈ d.vs, t ∉ d.ro
theorem LD.ok_spec {d : LD} (h : d.ok = true) : LDok d := by
 simp only [LD.ok, Bool.and_eq_true, List.all_eq_true, decide_eq_true_eq] at h
 obtain ⟨⟨⟨⟨⟨h1, h2⟩, h3⟩, h4⟩, h5⟩, h6⟩ := h
 exact ⟨fun p hp => ⟨h1 p hp, by simpa using h5 p hp⟩, h2, h3, fun t ht => by simpa using h4 t ht, fun t ht => by simpa using h6 t ht⟩
noncomputable def LD.rest (d : LD) (fr0 : F0) (w : Wd) (σ : AH) (as : List AV) : AH := fun c =>
 if (∃ h ∈ d.os.map (·.1), c = w.ρ h) ∨ (∃ i, d.own.getD i false = true ∧ i < as.length ∧ (avTok (as.getD i .any)).isOn c = true) ∨ (∃ o, fr0.lo = some (c, o)) then none else σ c
theorem SR_VRel {v : VV} {a : AV} (h : SR P W w nx aenv v a) : VRel P W w nx v a := by
 cases v <;> first | (simp only [VRel]; done) | exact h
theorem ER_map {env : List (Nat × VV)} (he : ER P W w nx env aenv) : ∀ (ts : List Nat), VRelL P W w nx (ts.map (lk env)) (ts.map aenv.get)
 | [] => by simp [VRelL]
 | t :: ts => by simp only [List.map_cons, VRelL]; exact ⟨_, _, rfl, SR_VRel (he t), ER_map he ts⟩
theorem asTs_length : ∀ (ts : List Ty) (vs : List VV) (x : ElT ts), asTs ts vs = some x → vs.length = ts.length
 | [], [], x, h => rfl
 | [], _ :: _, x, h => by simp [asTs] at h
 | [t], [v], x, h => rfl
 | [t], [], x, h => by simp [asTs] at h
 | [t], _ :: _ :: _, x, h => by simp [asTs] at h
 | _ :: _ :: _, [], x, h => by simp [asTs] at h
 | t :: u :: ts, v :: vs, x, h => by
   simp only [asTs] at h
   split at h
   ·split at h
    ·rename_i z hz; simp [asTs_length (u :: ts) vs z hz]
    ·cases h
   ·cases h
structure LDec (P : Program) (W : World) (d : LD) (w : Wd) (st : St) (σ : AH) (aenv : Env) (s : ElT d.vts) (live : List Nat) (as : List AV) : Prop where
 len : as.length = d.vts.length
 env : ∀ (i : Nat) t, d.vs[i]? = some t → as[i]? = some (aenv.get t)
 enc : as.map AV.bare = encTs d.vts s
 toks : Toks w st.live live d.own as
 vlen : d.vs.length ≤ as.length
 obj : ∀ (w' : Wd) (nx' : Nat) (vals : List VV), (∀ h, h < d.nx → w'.ρ h = w.ρ h) → (d.hasSl = true → ∀ h, h < d.nx → w'.tk h = w.tk h) → d.nx ≤ nx' → VRelL P W w' nx' vals (as.drop d.vs.length) → (∀ v ∈ vals, v.flat = true) →
     ∀ p ∈ fillO d.os vals, p.1 ∈ d.os.map (·.1) ∧ (∃ o, hlk st.hp p.1 = some o) ∧ ∃ ao, σ (w.ρ p.1) = some ao ∧ ORel P W w' nx' p.2 ao
 here : ∀ h ∈ d.os.map (·.1), ∃ o, hlk st.hp h = some o
theorem gatherO_here {n : Nat} {hp : List (Nat × LObj)} : ∀ (os : List (Nat × OK × List (Option VV))) (ov : List VV), gatherO n hp os = some ov → ∀ h ∈ os.map (·.1), ∃ o, hlk hp h = some o
 | [], ov, h, x, hx => by simp at hx
 | (hd, kd, sh) :: os, ov, h, x, hx => by
   simp only [gatherO] at h
   split at h
   ·rename_i k' vs hvs
    split at h
    ·split at h
     ·rename_i a b ha hb
      simp only [List.map_cons, List.mem_cons] at hx
      rcases hx with rfl | hx
      ·exact ⟨_, hvs⟩
      ·exact gatherO_here os b hb x hx
     ·cases h
    ·cases h
   ·cases h
theorem LD.dec_rel {d : LD} {s : ElT d.vts} {live : List Nat} (h : d.dec st = some (s, live)) (he : ER P W w st.nx st.env aenv) (hr : HR P W fr0 w st σ ds) : ∃ as, LDec P W d w st σ aenv s live as := by
 simp only [LD.dec] at h
 split at h
 ·rename_i os hos
  split at h
  ·rename_i s' live' hs hl
   simp only [Option.some.injEq, Prod.mk.injEq] at h
   obtain ⟨rfl, rfl⟩ := h
   obtain ⟨bs, k1, k2⟩ := gatherO_rel hr.obj d.os os hos
   have hv := (ER_map he d.vs).append k1
   refine ⟨d.vs.map aenv.get ++ bs, ?_, ?_, asTs_rel _ _ _ _ hs hv, takeToks_rel hr.dist _ _ _ _ _ (fun j hj => hj) hl hv, by simp, ?_, gatherO_here _ _ hos⟩
   ·rw [hv.length]; exact asTs_length _ _ _ hs
   ·intro i t ht
    have hi : i < d.vs.length := by
     rcases Nat.lt_or_ge i d.vs.length with h1 | h1
     ·exact h1
     ·rw [List.getElem?_eq_none h1] at ht; cases ht
    rw [List.getElem?_append_left (by simpa using hi), List.getElem?_map, ht]; rfl
   ·intro w' nx' vals h1 ht h2 h3 _
    refine k2 w' nx' vals [] h1 (fun q => ht (by simp only [LD.hasSl, Bool.or_eq_true]; exact .inr q)) h2 ?_
    rw [List.drop_append, List.drop_of_length_le (by simp)] at h3
    simpa using h3
  ·cases h
 ·cases h
theorem LD.rest_eq {d : LD} {as : List AV} {c : Nat} {o : AObj} (h : σ c = some o) (h1 : ∀ h ∈ d.os.map (·.1), c ≠ w.ρ h) (h2 : ∀ i, d.own.getD i false = true → i < as.length → (avTok (as.getD i .any)).isOn c = true → False) (h3 : ∀ o, fr0.lo ≠ some (c, o)) :
  d.rest fr0 w σ as c = some o := by
 simp only [LD.rest]
 rw [if_neg]
 ·exact h
 ·rintro (⟨x, hx, rfl⟩ | ⟨i, hi, hl, hon⟩ | ⟨o', ho⟩)
  ·exact h1 x hx rfl
  ·exact h2 i hi hl hon
  ·exact h3 o' ho
theorem LD.rest_le {d : LD} {as : List AV} : (d.rest fr0 w σ as).le σ := fun c o hc => by
 simp only [LD.rest] at hc
 split at hc
 ·cases hc
 ·exact hc
theorem LDec.fr_le {d : LD} {s : ElT d.vts} {live : List Nat} {as : List AV} (hs : LDec P W d w st σ aenv s live as) (hr : HR P W fr0 w st σ ds) : w.fr.le (d.rest fr0 w σ as) := fun c o hc => by
 refine LD.rest_eq (hr.fr c o hc) (fun h hh => ?_) (fun i hi hl hon => ?_) (fun o' ho => ?_)
 ·rintro rfl
  obtain ⟨vs, hv⟩ := hs.here h hh
  rw [hr.hfr h _ hv] at hc; cases hc
 ·rcases hs.toks.src i hi hl with h1 | ⟨id, h1, _, h2⟩
  ·rw [h1] at hon; cases hon
  ·rw [h2] at hon
   rw [hr.lfr id h1 c hon] at hc; cases hc
 ·rw [(hr.lrec c o' ho).2.1] at hc; cases hc
theorem LD.canon {d : LD} {c : ElT d.cts} {s : ElT d.vts} {live : List Nat} {as : List AV} {F : AH} (hd : LDok d) (hr : HR P W fr0 w st σ ds) (hs : LDec P W d w st σ aenv s live as)
  (hC : (d.cs.map aenv.get).map AV.bare = encTs d.cts c) (hP : ∀ p ∈ d.pts, VRel P W w (max st.nx d.nx) p.2 (aenv.get p.1)) (hF : F.le (d.rest fr0 w σ as)) (hB : fr0.base.le F) :
  ∃ w2, w2.ρ = w.ρ ∧ w2.fr = F ∧ w2.ext = w.ext ∧ ER P W w2 (d.body c s).nx (d.body c s).env aenv ∧ HR P W fr0 w2 (d.body c s) σ ds ∧ ∀ h, h < d.nx → w2.tk h = w.tk h := by
 let w2 : Wd := { ρ := w.ρ, tk := fun i => if d.nx ≤ i ∧ i < d.nx + d.own.length then avTok (as.getD (i - d.nx) .any) else w.tk i, ext := w.ext, fr := F }
 have htk2 : ∀ h, h < d.nx → w2.tk h = w.tk h := fun h hh => by simp only [w2]; rw [if_neg]; omega
 have hnone : ∀ c, d.rest fr0 w σ as c = none → F c = none := fun c hc => AH.none_le hF hc
 have hval : VRelL P W w2 (d.nx + d.own.length) (ownVs d.nx d.own (toVs d.vts s)) as := by
  refine ownVs_rel _ _ _ _ (toVs_rel _ _ _ hs.enc) fun i hi hl => ?_
  have hlt : i < d.own.length := by
   rcases Nat.lt_or_ge i d.own.length with h1 | h1
   ·exact h1
   ·simp [List.getD_eq_getElem?_getD, List.getElem?_eq_none h1] at hi
  refine ⟨by omega, ?_⟩
  simp only [w2]
  rw [if_pos ⟨by omega, by omega⟩, show d.nx + i - d.nx = i by omega]
 have htk : ∀ i, d.own.getD i false = true → i < d.own.length ∧ i < as.length ∧ w2.tk (d.nx + i) = avTok (as.getD i .any) := fun i hi => by
  have hlt : i < d.own.length := by
   rcases Nat.lt_or_ge i d.own.length with h1 | h1
   ·exact h1
   ·simp [List.getD_eq_getElem?_getD, List.getElem?_eq_none h1] at hi
  refine ⟨hlt, by rw [hs.len, ← hd.own]; exact hlt, ?_⟩
  simp only [w2]
  rw [if_pos ⟨by omega, by omega⟩, show d.nx + i - d.nx = i by omega]
 have hobj := hs.obj w2 (d.nx + d.own.length) _ (fun _ _ => rfl) (fun _ => htk2) (Nat.le_add_right _ _) (hval.drop d.vs.length) (fun v hv => ownVs_flat _ _ _ (toVs_flat _ _) v (List.mem_of_mem_drop hv))
 refine ⟨w2, rfl, rfl, rfl, ER_of fun p hp => ?_, ?_, htk2⟩
 ·simp only [LD.body, List.mem_append] at hp ⊢
  rcases hp with (hp | hp) | hp
  ·refine VRelL_zip _ _ (.inr trivial) (toVs_cnd _ _) (fun i t v ht hv => ?_) p hp
   have hvr := toVs_rel (P := P) (W := W) (w := w2) (nx := d.nx + d.own.length) _ _ _ hC
   obtain ⟨a, h1, h2⟩ := hvr.get i hv
   rw [List.getElem?_map, ht] at h1
   cases h1; exact h2
  ·have := hd.pts p hp
   exact (SR_plain (hOk_cnd this.1)).2 (hOk_rel (w := w) (w' := w2) (n := d.nx) (fun _ _ => rfl) (Nat.le_add_right _ _) _ (fun _ => htk2) this.1 (hP p hp))
  ·refine VRelL_zip _ _ (.inr trivial) (ownVs_cnd _ _ _ (toVs_cnd _ _)) (fun i t v ht hv => ?_) p hp
   obtain ⟨a, h1, h2⟩ := hval.get i hv
   rw [hs.env i t ht] at h1
   cases h1; exact h2
 ·have hmem : ∀ h o, hlk (d.body c s).hp h = some o → h ∈ d.os.map (·.1) ∧ (∃ o, hlk st.hp h = some o) ∧ ∃ ao, σ (w.ρ h) = some ao ∧ ORel P W w2 (d.nx + d.own.length) o ao := fun h o hx => hobj (h, o) (hlk_mem hx)
  refine ⟨AH.le_trans hF LD.rest_le, hB, fun h o hx => (hmem h o hx).2.2, ?_, ?_, ?_, ?_, ?_, ?_, ?_, hr.nd, hr.mrk, fun l o hl => ⟨(hr.lrec l o hl).1, hnone l ?_, (hr.lrec l o hl).2.2⟩⟩
  ·intro h o hx
   obtain ⟨p, hp, he⟩ := List.mem_map.1 (hmem h o hx).1
   have := hd.os p hp
   simp only [LD.body]
   omega
  ·intro h o hx
   refine hnone _ ?_
   simp only [w2, LD.rest]
   rw [if_pos (.inl ⟨h, (hmem h o hx).1, rfl⟩)]
  ·intro h h' o o' hx hx' he
   obtain ⟨vs, hv⟩ := (hmem h o hx).2.1
   obtain ⟨vs', hv'⟩ := (hmem h' o' hx').2.1
   exact hr.inj h h' _ _ hv hv' he
  ·intro id hid
   obtain ⟨i, rfl, hi⟩ := (mem_ownIds _ _ _).1 hid
   have := (htk i hi).1
   simp only [LD.body]; omega
  ·intro id hid
   obtain ⟨i, rfl, hi⟩ := (mem_ownIds _ _ _).1 hid
   obtain ⟨h1, h2, h3⟩ := htk i hi
   rw [h3]
   rcases hs.toks.src i hi h2 with h4 | ⟨id, h4, _, h5⟩
   ·rw [h4]; trivial
   ·rw [h5]; exact hr.live id h4
  ·intro id hid c hc
   obtain ⟨i, rfl, hi⟩ := (mem_ownIds _ _ _).1 hid
   obtain ⟨h1, h2, h3⟩ := htk i hi
   rw [h3] at hc
   refine hnone _ ?_
   simp only [w2, LD.rest]
   rw [if_pos (.inr (.inl ⟨i, hi, h2, hc⟩))]
  ·intro id hid jd hjd hne c hc
   obtain ⟨i, rfl, hi⟩ := (mem_ownIds _ _ _).1 hid
   obtain ⟨j, rfl, hj⟩ := (mem_ownIds _ _ _).1 hjd
   obtain ⟨h1, h2, h3⟩ := htk i hi
   obtain ⟨k1, k2, k3⟩ := htk j hj
   rw [h3] at hc; rw [k3]
   exact hs.toks.pair i j (by omega) hi hj h2 k2 c hc
  ·simp only [LD.rest]
   rw [if_pos (.inr (.inr ⟨o, hl⟩))]
theorem hlk_append (a b : List (Nat × LObj)) (h : Nat) : hlk (a ++ b) h = match hlk a h with | some o => some o | none => hlk b h := by
 induction a with
 | nil => rfl
 | cons p a ih =>
   obtain ⟨x, o⟩ := p
   simp only [List.cons_append, hlk]
   split
   ·rfl
   ·exact ih
theorem hlk_filter (hp : List (Nat × LObj)) (q : Nat → Bool) (h : Nat) (o : LObj) (hx : hlk (hp.filter fun p => q p.1) h = some o) : q h = true ∧ hlk hp h = some o := by
 induction hp with
 | nil => simp [hlk] at hx
 | cons p hp ih =>
   obtain ⟨x, o'⟩ := p
   simp only [List.filter_cons] at hx
   split at hx
   ·rename_i hq
    simp only [hlk] at hx ⊢
    split at hx
    ·rename_i hxh; subst hxh; cases hx; exact ⟨hq, by simp⟩
    ·rename_i hxh; rw [if_neg hxh]; exact ih hx
   ·rename_i hq
    obtain ⟨h1, h2⟩ := ih hx
    refine ⟨h1, ?_⟩
    simp only [hlk]
    rw [if_neg]
    ·exact h2
    ·rintro rfl; exact hq h1
theorem LD.after_gen {d : LD} {s s' : ElT d.vts} {live live' : List Nat} {as as' : List AV} {st' : St} {aenv' : Env} {ds' : List Nat} (hd : LDok d) (hr : HR P W fr0 w st σ ds) (he : ER P W w st.nx st.env aenv) (hs : LDec P W d w st σ aenv s live as)
  (hs' : LDec P W d w' st' σ' aenv' s' live' as') (hρ : ∀ h, h < d.nx → w'.ρ h = w.ρ h) (hτ : d.hasSl = true → ∀ h, h < d.nx → w'.tk h = w.tk h) (hf : (d.rest fr0 w σ as).le σ') (hnx : st.nx ≤ d.nx) (hro : ∀ t ∈ d.ro, aenv'.get t = aenv.get t)
  (hlv' : ∀ i, d.own.getD i false = true → Live σ' (avTok (as'.getD i .any))) (hon' : ∀ i, d.own.getD i false = true → ∀ c, (avTok (as'.getD i .any)).isOn c = true → d.rest fr0 w σ as c = none)
  (hds : ds'.Nodup ∧ ∀ b ∈ ds', σ' b = some .marks ∧ fr0.base b = none) (hlr : ∀ l o, fr0.lo = some (l, o) → σ' l = some o) :
  ∃ w2, Wd.le st.nx w w2 ∧ ER P W w2 (d.after st live s').nx (d.after st live s').env aenv' ∧ HR P W fr0 w2 (d.after st live s') σ' ds' := by
 let w2 : Wd := { ρ := w.ρ, tk := fun i => if d.nx ≤ i ∧ i < d.nx + d.own.length then avTok (as'.getD (i - d.nx) .any) else w.tk i, ext := w.ext, fr := w.fr }
 have hle : Wd.le st.nx w w2 := ⟨fun _ _ => rfl, fun i hi => by simp only [w2]; rw [if_neg]; omega, rfl, AH.le_refl _⟩
 have hlto : ∀ i, d.own.getD i false = true → i < d.own.length := fun i hi => by
  rcases Nat.lt_or_ge i d.own.length with h1 | h1
  ·exact h1
  ·simp [List.getD_eq_getElem?_getD, List.getElem?_eq_none h1] at hi
 have hval : VRelL P W w2 (d.nx + d.own.length) (ownVs d.nx d.own (toVs d.vts s')) as' := by
  refine ownVs_rel _ _ _ _ (toVs_rel _ _ _ hs'.enc) fun i hi hl => ?_
  have hlt := hlto i hi
  refine ⟨by omega, ?_⟩
  simp only [w2]
  rw [if_pos ⟨by omega, by omega⟩, show d.nx + i - d.nx = i by omega]
 have htk : ∀ i, d.own.getD i false = true → i < d.own.length ∧ i < as'.length ∧ w2.tk (d.nx + i) = avTok (as'.getD i .any) := fun i hi => by
  have hlt := hlto i hi
  refine ⟨hlt, by rw [hs'.len, ← hd.own]; exact hlt, ?_⟩
  simp only [w2]
  rw [if_pos ⟨by omega, by omega⟩, show d.nx + i - d.nx = i by omega]
 have hwf : w.fr.le (d.rest fr0 w σ as) := hs.fr_le hr
 have hobj := hs'.obj w2 (d.nx + d.own.length) _ (fun h hh => (hρ h hh).symm) (fun q h hh => by rw [hτ q h hh]; simp only [w2]; rw [if_neg]; omega) (Nat.le_add_right _ _) (hval.drop d.vs.length) (fun v hv => ownVs_flat _ _ _ (toVs_flat _ _) v (List.mem_of_mem_drop hv))
 have hsub : ∀ j ∈ live, j ∈ st.live := hs.toks.sub
 have hold : ∀ j ∈ live, w2.tk j = w.tk j := fun j hj => by
  have := hr.llt j (hsub j hj)
  simp only [w2]; rw [if_neg]; omega
 -- what the rights that stayed stand on is not turned
 have hrow : ∀ j ∈ live, ∀ c, (w.tk j).isOn c = true → ∃ o, d.rest fr0 w σ as c = some o ∧ σ c = some o := fun j hj c hc => by
  have hlv := hr.live j (hsub j hj)
  cases hx : w.tk j with
  | none => rw [hx] at hc; cases hc
  | clip => rw [hx] at hc; cases hc
  | own b e lim =>
    rw [hx] at hlv hc
    simp only [Tok.isOn, beq_iff_eq] at hc
    subst hc
    have hσ : σ b = some (.row e lim) := hlv
    refine ⟨_, LD.rest_eq hσ (fun h hh => ?_) (fun i hi hl hon => ?_) (fun o' ho => ?_), hσ⟩
    ·rintro rfl
     obtain ⟨vs, hv⟩ := hs.here h hh
     obtain ⟨ao2, h2, h2'⟩ := hr.obj _ _ hv
     rw [hσ] at h2; cases h2; cases h2'.mine
    ·rcases hs.toks.src i hi hl with h1 | ⟨id, h1, h3, h2⟩
     ·rw [h1] at hon; cases hon
     ·rw [h2] at hon
      have hne : id ≠ j := by rintro rfl; exact h3 hj
      have := hr.dist id h1 j (hsub j hj) hne b hon
      rw [hx] at this; simp [Tok.isOn] at this
    ·obtain ⟨h1, _, h3⟩ := hr.lrec b o' ho
     rw [hσ] at h1; cases h1; cases h3
 have hmem : ∀ h o, hlk (d.after st live s').hp h = some o → (∃ o', hlk st.hp h = some o') ∧ ∃ ao, σ' (w.ρ h) = some ao ∧ ORel P W w2 (d.nx + d.own.length) o ao := by
  intro h o hx
  simp only [LD.after, hlk_append] at hx
  split at hx
  ·rename_i o' ho'
   cases hx
   obtain ⟨h1, _, ao, h3, h4⟩ := hobj (h, o) (hlk_mem ho')
   obtain ⟨vs, hv⟩ := hs.here h h1
   obtain ⟨p, hp, hpe⟩ := List.mem_map.1 h1
   have := hd.os p hp
   exact ⟨⟨_, hv⟩, ao, by rw [← hρ h (by omega)]; exact h3, h4⟩
  ·obtain ⟨h1, h2⟩ := hlk_filter st.hp (fun x => !(d.os.map (·.1)).contains x) h o hx
   obtain ⟨ao, h3, h4⟩ := hr.obj h o h2
   refine ⟨⟨o, h2⟩, ao, ?_, h4.mono hle (by omega)⟩
   refine hf _ _ (LD.rest_eq h3 (fun x hx' hxe => ?_) (fun i hi hl hon => ?_) (fun o' ho => ?_))
   ·obtain ⟨vs, hv⟩ := hs.here x hx'
    have := hr.inj h x _ _ h2 hv hxe
    subst this
    simp at h1
    obtain ⟨p, hp, hpe⟩ := List.mem_map.1 hx'
    exact h1 p.2.1 p.2.2 (by rw [← hpe]; exact hp)
   ·rcases hs.toks.src i hi hl with h5 | ⟨id, h5, h7, h6⟩
    ·rw [h5] at hon; cases hon
    ·rw [h6] at hon
     have hlv := hr.live id h5
     cases hy : w.tk id with
     | none => rw [hy] at hon; cases hon
     | clip => rw [hy] at hon; cases hon
     | own b e lim =>
       rw [hy] at hlv hon
       simp only [Tok.isOn, beq_iff_eq] at hon
       have hσ : σ b = some (.row e lim) := hlv
       rw [← hon, hσ] at h3
       cases h3
       cases h4.mine
   ·obtain ⟨g1, _, g3⟩ := hr.lrec _ o' ho
    rw [h3] at g1; cases g1
    have := h4.mine
    cases ao <;> simp [AObj.mine, AObj.isLoop] at this g3
 refine ⟨w2, hle, ER_of fun p hp => ?_, ?_⟩
 ·simp only [LD.after, List.mem_append] at hp ⊢
  rcases hp with hp | hp
  ·refine VRelL_zip _ _ (.inr trivial) (ownVs_cnd _ _ _ (toVs_cnd _ _)) (fun i t v ht hv => ?_) p hp
   obtain ⟨a, h1, h2⟩ := hval.get i hv
   rw [hs'.env i t ht] at h1
   cases h1; exact h2
  ·obtain ⟨t, ht, rfl⟩ := List.mem_map.1 hp
   simp only
   rw [hro t ht]
   have h1 : VRel P W w st.nx (nocnd (lk st.env t)) (aenv.get t) := by
    have := he t
    generalize lk st.env t = v at this
    cases v <;> first | (simp only [nocnd, VRel]; done) | exact this
   have h2 : (nocnd (lk st.env t)).isCnd = false := by
    generalize lk st.env t = v
    cases v <;> rfl
   exact (SR_plain h2).2 (h1.mono hle (by omega))
 ·refine ⟨AH.le_trans hwf hf, hr.base, fun h o hx => (hmem h o hx).2, ?_, ?_, ?_, ?_, ?_, ?_, ?_, hds.1, hds.2, fun l o hl => ⟨hlr l o hl, (hr.lrec l o hl).2⟩⟩
  ·intro h o hx
   obtain ⟨o', h1⟩ := (hmem h o hx).1
   have := hr.hlt h o' h1
   simp only [LD.after]; omega
  ·intro h o hx
   obtain ⟨o', h1⟩ := (hmem h o hx).1
   exact hr.hfr h o' h1
  ·intro h h' o o' hx hx' hee
   obtain ⟨o1, h1⟩ := (hmem h o hx).1
   obtain ⟨o2, h2⟩ := (hmem h' o' hx').1
   exact hr.inj h h' _ _ h1 h2 hee
  ·intro id hid
   simp only [LD.after, List.mem_append] at hid ⊢
   rcases hid with hid | hid
   ·obtain ⟨i, rfl, hi⟩ := (mem_ownIds _ _ _).1 hid
    have := (htk i hi).1; omega
   ·have := hr.llt id (hsub id hid); omega
  ·intro id hid
   simp only [LD.after, List.mem_append] at hid
   rcases hid with hid | hid
   ·obtain ⟨i, rfl, hi⟩ := (mem_ownIds _ _ _).1 hid
    obtain ⟨h1, h2, h3⟩ := htk i hi
    rw [h3]; exact hlv' i hi
   ·rw [hold id hid]
    have hlv := hr.live id (hsub id hid)
    have hrw := hrow id hid
    cases hx : w.tk id with
    | none => rw [hx] at hlv; exact hlv
    | clip => trivial
    | own b e lim =>
      rw [hx] at hlv hrw
      obtain ⟨o, h1, h2⟩ := hrw b (by simp [Tok.isOn])
      have : σ b = some (.row e lim) := hlv
      rw [this] at h2; cases h2
      exact hf _ _ h1
  ·intro id hid c hc
   simp only [LD.after, List.mem_append] at hid
   rcases hid with hid | hid
   ·obtain ⟨i, rfl, hi⟩ := (mem_ownIds _ _ _).1 hid
    rw [(htk i hi).2.2] at hc
    exact AH.none_le hwf (hon' i hi c hc)
   ·rw [hold id hid] at hc
    exact hr.lfr id (hsub id hid) c hc
  ·intro id hid jd hjd hne c hc
   have clash : ∀ i, d.own.getD i false = true → ∀ j ∈ live, ∀ c, (avTok (as'.getD i .any)).isOn c = true → (w.tk j).isOn c = true → False := fun i hi j hj c h1 h2 => by
    have h3 := hon' i hi c h1
    obtain ⟨o, h4, _⟩ := hrow j hj c h2
    rw [h4] at h3; cases h3
   simp only [LD.after, List.mem_append] at hid hjd
   rcases hid with hid | hid
   ·obtain ⟨i, rfl, hi⟩ := (mem_ownIds _ _ _).1 hid
    obtain ⟨h1, h2, h3⟩ := htk i hi
    rw [h3] at hc
    rcases hjd with hjd | hjd
    ·obtain ⟨j, rfl, hj⟩ := (mem_ownIds _ _ _).1 hjd
     obtain ⟨k1, k2, k3⟩ := htk j hj
     rw [k3]
     exact hs'.toks.pair i j (by omega) hi hj h2 k2 c hc
    ·rw [hold jd hjd]
     cases hx : (w.tk jd).isOn c with
     | false => rfl
     | true => exact (clash i hi jd hjd c hc hx).elim
   ·rw [hold id hid] at hc
    rcases hjd with hjd | hjd
    ·obtain ⟨j, rfl, hj⟩ := (mem_ownIds _ _ _).1 hjd
     rw [(htk j hj).2.2]
     cases hx : (avTok (as'.getD j .any)).isOn c with
     | false => rfl
     | true => exact (clash j hj id hid c hx hc).elim
    ·rw [hold jd hjd]
     exact hr.dist id (hsub id hid) jd (hsub jd hjd) hne c hc
theorem LD.after_rel {d : LD} {s s' : ElT d.vts} {live live' : List Nat} {as as' : List AV} {st' : St} {aenv' : Env} {ds' : List Nat} (hd : LDok d) (hr : HR P W fr0 w st σ ds) (he : ER P W w st.nx st.env aenv) (hs : LDec P W d w st σ aenv s live as)
  (hr' : HR P W fr0 w' st' σ' ds') (hs' : LDec P W d w' st' σ' aenv' s' live' as') (hρ : ∀ h, h < d.nx → w'.ρ h = w.ρ h) (hτ : d.hasSl = true → ∀ h, h < d.nx → w'.tk h = w.tk h) (hf : (d.rest fr0 w σ as).le w'.fr) (hnx : st.nx ≤ d.nx) (hro : ∀ t ∈ d.ro, aenv'.get t = aenv.get t) :
  ∃ w2, Wd.le st.nx w w2 ∧ ER P W w2 (d.after st live s').nx (d.after st live s').env aenv' ∧ HR P W fr0 w2 (d.after st live s') σ' ds' := by
 have hlt : ∀ i, d.own.getD i false = true → i < as'.length := fun i hi => by
  rw [hs'.len, ← hd.own]
  rcases Nat.lt_or_ge i d.own.length with h1 | h1
  ·exact h1
  ·simp [List.getD_eq_getElem?_getD, List.getElem?_eq_none h1] at hi
 refine LD.after_gen hd hr he hs hs' hρ hτ (AH.le_trans hf hr'.fr) hnx hro (fun i hi => ?_) (fun i hi c hc => ?_) ⟨hr'.nd, hr'.mrk⟩ (fun l o hl => (hr'.lrec l o hl).1)
 ·rcases hs'.toks.src i hi (hlt i hi) with h4 | ⟨id, h4, _, h5⟩
  ·rw [h4]; trivial
  ·rw [h5]; exact hr'.live id h4
 ·rcases hs'.toks.src i hi (hlt i hi) with h4 | ⟨id, h4, _, h5⟩
  ·rw [h4] at hc; cases hc
  ·rw [h5] at hc; exact AH.none_le hf (hr'.lfr id h4 c hc)
end
end Go.AL
namespace Go.AL
open Go.RowKit
set_option linter.unusedVariables false
set_option linter.unusedSimpArgs false
set_option linter.unusedSectionVars false
theorem AW.freezeL {P : Program} {w₀ : World} {ro : Option Nat} {n : Nat} {Q : Out → Env → AH → List Nat → Prop} {K : List AItem} {env env' : Env} {σ : AH} {ds : List Nat} {b sz len c : Nat} {vs rest xs : List AV}
  (hb : σ b = some (.cells vs)) (hw : ∀ F us, RelL F vs us → RelL F (xs.flatMap AV.cells ++ rest) us) (ho : (xs.flatMap AV.cells).all AV.one = true)
  (hs : ∀ x ∈ xs, x.cells.length = sz) (hl : xs.length = len) (hlc : len ≤ c) (hm : c < 9223372036854775808)
  (hu : ∀ t, env'.get t = env.get t ∨ (env.get t = .slc sz b 0 len c ∧ env'.get t = .lst sz xs .none))
  (h : AW P w₀ ro n Q K env' (σ.del b) ds) : AW P w₀ ro n Q K env σ ds := by
 intro todo hT F a w he hd hI
 obtain ⟨us, T, hg, hr⟩ := hI.obj _ _ hb
 have hap := hI.apart _ _ hb
 have hrr := hw F us hr
 obtain ⟨m, hm'⟩ : ∃ m, m = (xs.flatMap AV.cells).length := ⟨_, rfl⟩
 have hr1 : RelL F (xs.flatMap AV.cells) (us.take m) := by
  have := hrr.take m
  rw [hm', List.take_left] at this; rw [hm']; exact this
 obtain ⟨F', hF'⟩ : ∃ F' : Gh, F' = fun b' i => if b' = b then (us.take m)[i]? else F b' i := ⟨_, rfl⟩
 have hle : F.le F' := fun b' i v hv => by
  have : b' ≠ b := by rintro rfl; rw [hap i] at hv; cases hv
  rw [hF']; simp [this, hv]
 have hI' : Inv w₀ F' (σ.del b) w := by
  refine ⟨fun b' i v hv => ?_, fun b' o ho' => ?_, fun b' o ho' => ?_, fun b' o ho' => ?_, hI.base⟩
  ·by_cases hbb : b' = b
   ·subst hbb
    rw [hF'] at hv; simp only [if_true] at hv
    have hv2 : us[i]? = some v := by
     rw [List.getElem?_take] at hv
     split at hv
     ·exact hv
     ·cases hv
    have hi : i < us.length := by
     rcases Nat.lt_or_ge i us.length with h1 | h1
     ·exact h1
     ·rw [List.getElem?_eq_none h1] at hv2; cases hv2
    rw [List.getElem?_eq_getElem hi] at hv2
    simp only [Option.some.injEq] at hv2
    simp [World.cell?, hg, hi, hv2]
   ·rw [hF'] at hv; simp only [hbb, if_false] at hv
    exact hI.imm _ _ _ hv
  ·have hbb : b' ≠ b := by rintro rfl; simp [AH.del] at ho'
   simp only [AH.del, hbb, if_false] at ho'
   exact (hI.obj _ _ ho').mono hle
  ·have hbb : b' ≠ b := by rintro rfl; simp [AH.del] at ho'
   simp only [AH.del, hbb, if_false] at ho'
   have := hI.apart _ _ ho'
   rw [hF']
   cases o <;> simp only [AObj.free, hbb, if_false] at this ⊢ <;> exact this
  ·have hbb : b' ≠ b := by rintro rfl; simp [AH.del] at ho'
   simp only [AH.del, hbb, if_false] at ho'
   exact hI.new _ _ ho'
 have he' : EnvR F' n env' a.tmps := by
  refine ⟨he.1, fun t ht => ?_⟩
  rcases hu t with h1 | ⟨h1, h2⟩
  ·rw [h1] at ht ⊢
   obtain ⟨v, g1, g2⟩ := he.2 t ht
   exact ⟨v, g1, g2.mono hle⟩
  ·obtain ⟨v, g1, g2⟩ := he.2 t (by rw [h1]; simp)
   rw [h1] at g2
   rw [h2]
   cases g2
   refine ⟨_, g1, .lst (us := us.take m) ho (hr1.mono hle) (fun i u hu => ?_) hs hlc hm trivial hl⟩
   rw [hF']; simp only [if_true, Nat.zero_add]; exact hu
 intro b' cs hro
 obtain ⟨o, a', w', ⟨F2, env2, σ2, ds2, g1, g2⟩, g3⟩ := h todo hT F' a w he' hd hI' b' cs hro
 exact ⟨o, a', w', ⟨F2, env2, σ2, ds2, Gh.le_trans hle g1, g2⟩, g3⟩
section
variable [Uni3]
def hdel (hp : List (Nat × LObj)) (h : Nat) : List (Nat × LObj) := hp.filter fun p => !(p.1 == h)
def frzE (sz h : Nat) (v : VV) : List Nat → List (Nat × VV) → List (Nat × VV)
 | [], env => env
 | s :: ss, env => frzE sz h v ss (match sameV (lk env s) (.sl sz h) with
   | true => put env (some s) v
   | false => env)
def frz1 (ss : List Nat) (st : St) (s : Nat) : St :=
 match lk st.env s with
 | .sl sz h => match arrV st.hp sz h with
   | some v => { st with env := frzE sz h v ss st.env, hp := hdel st.hp h }
   | none => st
 | _ => st
def frzA (ss : List Nat) : List Nat → St → St
 | [], st => st
 | s :: r, st => frzA ss r (frz1 ss st s)
def frz (ro ss : List Nat) (st : St) : St := frzA (ss.filter fun s => !ro.contains s) (ss.filter fun s => !ro.contains s) st
def lstSlots : List Nat → List Ty → List Nat
 | s :: ss, .lst _ :: ts => s :: lstSlots ss ts
 | _ :: ss, _ :: ts => lstSlots ss ts
 | _, _ => []
variable {P : Program} {W : World} {fr0 : F0} {w w' : Wd} {st : St} {σ σ' : AH} {ds : List Nat} {nx nx' : Nat} {aenv : Env}
theorem arrV_lst {hp : List (Nat × LObj)} {sz h : Nat} {v : VV} (k : arrV hp sz h = some v) : ∃ t l, v = .lst t l .none := by
 unfold arrV at k
 split at k
 ·split at k
  ·cases k; exact ⟨_, _, rfl⟩
  ·cases k
 ·cases k
theorem frzE_rel {sz h n c : Nat} {t : Ty} {l : List (El t)} (hsz : szE t = sz) (hc : w.tk h = .own (w.ρ h) n c) : ∀ (ss : List Nat) (env : List (Nat × VV)) (aenv : Env), ER P W w nx env aenv →
  ∃ aenv', ER P W w nx (frzE sz h (.lst t l .none) ss env) aenv' ∧ ∀ u, aenv'.get u = aenv.get u ∨ (u ∈ ss ∧ aenv.get u = .slc sz (w.ρ h) 0 n c ∧ aenv'.get u = .lst sz (l.map (encE t)) .none)
 | [], env, aenv, he => ⟨aenv, he, fun u => .inl rfl⟩
 | s :: ss, env, aenv, he => by
   simp only [frzE]
   cases hx : sameV (lk env s) (.sl sz h) with
   | false =>
     obtain ⟨aenv', h1, h2⟩ := frzE_rel hsz hc ss env aenv he
     refine ⟨aenv', h1, fun u => ?_⟩
     rcases h2 u with h3 | ⟨h3, h4⟩
     ·exact .inl h3
     ·exact .inr ⟨List.mem_cons_of_mem _ h3, h4⟩
   | true =>
     have hl := sameV_eq _ _ hx
     have hs : aenv.get s = .slc sz (w.ρ h) 0 n c := by
      have := he s
      rw [hl] at this
      simp only [SR, VRel] at this
      obtain ⟨_, n', c', h3, h4⟩ := this
      rw [hc] at h3
      simp only [Tok.own.injEq, true_and] at h3
      rw [h4, h3.1, h3.2]
     have he1 : ER P W w nx (put env (some s) (.lst t l .none)) (aenv.set (some s) (.lst sz (l.map (encE t)) .none)) := ER.put he (by simp only [VRel]; exact ⟨.none, by rw [hsz], trivial⟩)
     obtain ⟨aenv', h1, h2⟩ := frzE_rel hsz hc ss _ _ he1
     refine ⟨aenv', h1, fun u => ?_⟩
     have hput : ∀ v, (aenv.set (some s) v).get u = if u = s then v else aenv.get u := fun v => by
      show (aenv.put s v).get u = _
      by_cases hus : u = s
      ·subst hus; rw [Env.get_put_same, if_pos rfl]
      ·rw [Env.get_put_ne _ _ hus, if_neg hus]
     by_cases hus : u = s
     ·subst hus
      rcases h2 u with h3 | ⟨h3, h4, h5⟩
      ·rw [hput, if_pos rfl] at h3
       exact .inr ⟨List.mem_cons_self .., hs, h3⟩
      ·rw [hput, if_pos rfl] at h4; cases h4
     ·rcases h2 u with h3 | ⟨h3, h4, h5⟩
      ·rw [hput, if_neg hus] at h3; exact .inl h3
      ·rw [hput, if_neg hus] at h4; exact .inr ⟨List.mem_cons_of_mem _ h3, h4, h5⟩
theorem frz1_sound (ss : List Nat) (s : Nat) (he : ER P W w st.nx st.env aenv) (hr : HR P W fr0 w st σ ds) :
  ∃ aenv' σ', (ER P W w (frz1 ss st s).nx (frz1 ss st s).env aenv' ∧ HR P W fr0 w (frz1 ss st s) σ' ds) ∧ (frz1 ss st s).nx = st.nx ∧ (∀ t, t ∉ ss → aenv'.get t = aenv.get t) ∧
    ∀ (ro : Option Nat) (n : Nat) (Q : Out → Env → AH → List Nat → Prop) (K : List AItem) {dsF : List Nat}, AW P W ro n Q K aenv' σ' dsF → AW P W ro n Q K aenv σ dsF := by
 have same : ∃ aenv' σ', (ER P W w st.nx st.env aenv' ∧ HR P W fr0 w st σ' ds) ∧ st.nx = st.nx ∧ (∀ t, t ∉ ss → aenv'.get t = aenv.get t) ∧
   ∀ (ro : Option Nat) (n : Nat) (Q : Out → Env → AH → List Nat → Prop) (K : List AItem) {dsF : List Nat}, AW P W ro n Q K aenv' σ' dsF → AW P W ro n Q K aenv σ dsF := ⟨aenv, σ, ⟨he, hr⟩, rfl, fun _ _ => rfl, fun _ _ _ _ _ h => h⟩
 unfold frz1
 split
 ·rename_i sz h hl
  split
  ·rename_i v hv
   obtain ⟨t, l, rfl⟩ := arrV_lst hv
   obtain ⟨hsz, hlt, n, c, ys, rest, hA⟩ := arr_rel hr.obj hv
   obtain ⟨tk0, hob⟩ := hA.ob
   obtain ⟨aenv', h1, h2⟩ := frzE_rel (l := l) hsz hA.tk ss st.env aenv he
   have hne : ∀ x o, hlk (hdel st.hp h) x = some o → x ≠ h ∧ hlk st.hp x = some o := fun x o hx => by
    obtain ⟨h3, h4⟩ := hlk_filter st.hp (fun p => !(p == h)) x o hx
    exact ⟨by simpa using h3, h4⟩
   have keep : ∀ x o, σ x = some o → (∀ vs, o ≠ .cells vs) → (σ.del (w.ρ h)) x = some o := fun x o hx hn => by
    have : x ≠ w.ρ h := by rintro rfl; rw [hA.at_] at hx; cases hx; exact hn _ rfl
    simp only [AH.del, this, if_false]; exact hx
   refine ⟨aenv', σ.del (w.ρ h), ⟨h1, ?_⟩, rfl, fun u hu => ?_, fun ro n' Q K _ hK => ?_⟩
   ·refine ⟨fun x o hx => ?_, hr.base, fun x o hx => ?_, fun x o hx => hr.hlt x o (hne x o hx).2, fun x o hx => hr.hfr x o (hne x o hx).2, fun x y o o' hx hy => hr.inj x y o o' (hne x o hx).2 (hne y o' hy).2, hr.llt, fun i hi => ?_, hr.lfr, hr.dist, hr.nd, fun b hb => ⟨keep _ _ (hr.mrk b hb).1 (by simp), (hr.mrk b hb).2⟩, fun l' o hl' => ?_⟩
    ·have : x ≠ w.ρ h := by rintro rfl; rw [hr.hfr h _ hob] at hx; cases hx
     simp only [AH.del, this, if_false]; exact hr.fr _ _ hx
    ·obtain ⟨hx1, hx2⟩ := hne x o hx
     obtain ⟨ao, h3, h4⟩ := hr.obj x o hx2
     refine ⟨ao, ?_, h4⟩
     have : w.ρ x ≠ w.ρ h := fun e => hx1 (hr.inj x h _ _ hx2 hob e)
     simp only [AH.del, this, if_false]; exact h3
    ·have hlv := hr.live i hi
     cases ht : w.tk i with
     | none => rw [ht] at hlv; exact hlv
     | clip => trivial
     | own b e lim => rw [ht] at hlv; exact keep _ _ hlv (by simp)
    ·obtain ⟨g1, g2, g3⟩ := hr.lrec l' o hl'
     exact ⟨keep _ _ g1 (by rintro vs rfl; cases g3), g2, g3⟩
   ·rcases h2 u with h3 | ⟨h3, _⟩
    ·exact h3
    ·exact absurd h3 hu
   ·have hone : ((l.map (encE t)).flatMap AV.cells).all AV.one = true := by
     rw [List.all_eq_true]
     intro x hx
     obtain ⟨y, hy, hxy⟩ := List.mem_flatMap.1 hx
     obtain ⟨z, hz, rfl⟩ := List.mem_map.1 hy
     have : (encE t z).cells.all AV.one = true := by
      cases t <;> first | rfl | skip
      exact Uni.one _ _
     rw [List.all_eq_true] at this
     exact this x hxy
    refine AW.freezeL (sz := sz) (rest := rest.map AV.bare1) hA.at_ (fun F us hus => ?_) hone (fun x hx => ?_) (by rw [List.length_map]; exact hA.len) hA.cap hA.max (fun u => ?_) hK
    ·have := hus.bare1
     rw [List.map_append, hA.eq] at this
     exact this
    ·obtain ⟨y, _, rfl⟩ := List.mem_map.1 hx
     rw [encE_clen]; exact hsz
    ·rcases h2 u with h3 | ⟨_, h4⟩
     ·exact .inl h3
     ·exact .inr h4
  ·exact same
 ·exact same
theorem frzA_sound (ss : List Nat) : ∀ (rs : List Nat) (st : St) (aenv : Env) (σ : AH), ER P W w st.nx st.env aenv → HR P W fr0 w st σ ds →
  ∃ aenv' σ', (ER P W w (frzA ss rs st).nx (frzA ss rs st).env aenv' ∧ HR P W fr0 w (frzA ss rs st) σ' ds) ∧ (frzA ss rs st).nx = st.nx ∧ (∀ t, t ∉ ss → aenv'.get t = aenv.get t) ∧
    ∀ (ro : Option Nat) (n : Nat) (Q : Out → Env → AH → List Nat → Prop) (K : List AItem) {dsF : List Nat}, AW P W ro n Q K aenv' σ' dsF → AW P W ro n Q K aenv σ dsF
 | [], st, aenv, σ, he, hr => ⟨aenv, σ, ⟨he, hr⟩, rfl, fun _ _ => rfl, fun _ _ _ _ _ h => h⟩
 | s :: rs, st, aenv, σ, he, hr => by
   obtain ⟨a1, σ1, ⟨h1, h2⟩, h3, h4, h5⟩ := frz1_sound ss s he hr
   obtain ⟨a2, σ2, k1, k3, k4, k5⟩ := frzA_sound ss rs _ a1 σ1 h1 h2
   exact ⟨a2, σ2, k1, k3.trans h3, fun t ht => (k4 t ht).trans (h4 t ht), fun ro n Q K _ h => h5 _ _ _ _ (k5 _ _ _ _ h)⟩
theorem frz_sound (ro ss : List Nat) (he : ER P W w st.nx st.env aenv) (hr : HR P W fr0 w st σ ds) :
  ∃ aenv' σ', (ER P W w (frz ro ss st).nx (frz ro ss st).env aenv' ∧ HR P W fr0 w (frz ro ss st) σ' ds) ∧ (frz ro ss st).nx = st.nx ∧ (∀ t ∈ ro, aenv'.get t = aenv.get t) ∧
    ∀ (rof : Option Nat) (n : Nat) (Q : Out → Env → AH → List Nat → Prop) (K : List AItem) {dsF : List Nat}, AW P W rof n Q K aenv' σ' dsF → AW P W rof n Q K aenv σ dsF := by
 obtain ⟨a1, σ1, h1, h2, h3, h4⟩ := frzA_sound (ss.filter fun s => !ro.contains s) (ss.filter fun s => !ro.contains s) st aenv σ he hr
 exact ⟨a1, σ1, h1, h2, fun t ht => h3 t (by simp [ht]), h4⟩
end
end Go.AL
namespace Go.AL
open Go.RowKit
set_option linter.unusedVariables false
set_option linter.unusedSimpArgs false
set_option linter.unusedSectionVars false
section
variable [Uni3]
def LD.fz (d : LD) : List Nat := lstSlots d.cs d.cts ++ lstSlots d.vs d.vts
def rvFz : List RV → List Ty → List Nat
 | .t n :: r, .lst _ :: ts => n :: rvFz r ts
 | _ :: r, _ :: ts => rvFz r ts
 | _, _ => []
structure Loop (R : Type) extends LD where
 inv : ElT cts → ElT vts → Prop
 meas : ElT cts → ElT vts → Nat
 out : ElT cts → ElT vts → LOut (ElT vts) R
 exts : List Nat
 rets : Bool
def optFz {R : Type} (ro : List Nat) (st : St) : Option (Loop R) → St
 | some lp => frz ro lp.fz st
 | none => st
def mkLoop {R : Type} (d : LD) (inv : ElT d.cts → ElT d.vts → Prop) (meas : ElT d.cts → ElT d.vts → Nat) (out : ElT d.cts → ElT d.vts → LOut (ElT d.vts) R) (exts : List Nat) (rets : Bool) : Loop R := { toLD := d, inv, meas, out, exts, rets }
structure RLoop (R : Type) extends LD where
 t : Ty
 inv : ElT cts → List (El t) → ElT vts → Prop
 out : ElT cts → List (El t) → ElT vts → LOut (ElT vts) R
 exts : List Nat
 rets : Bool
def mkRLoop {R : Type} (d : LD) (t : Ty) (inv : ElT d.cts → List (El t) → ElT d.vts → Prop) (out : ElT d.cts → List (El t) → ElT d.vts → LOut (ElT d.vts) R) (exts : List Nat) (rets : Bool) : RLoop R := { toLD := d, t, inv, out, exts, rets }
def resV (st : St) : List RV → Option (List VV)
 | [] => some []
 | .t n :: r => match resV st r with
   | some l => some (nocnd (lk st.env n) :: l)
   | none => none
 | .cell n g sz :: r => match lk st.env n with
   | .loc h o => match hlk st.hp h with
     | some (.ob k vs) => if k = .plain then match resV st r with
       | some l => match g with
         | true => if o + sz ≤ vs.length ∧ ((vs.drop o).take sz).all VV.okc = true then some (.agg ((vs.drop o).take sz) :: l) else none
         | false => match vs[o]? with
           | some v => some (v :: l)
           | none => none
       | none => none
       else none
     | none => none
   | _ => none
def resT (rvs : List RV) (rts : List Ty) (st : St) : Option (ElT rts) :=
 match resV st rvs with
 | some vs => asTs rts vs
 | none => none
def extAll {S R : Type} (out : LOut S R) (s' : S) (kx : Nat → Prop) : List Nat → Prop
 | [] => True
 | [i] => out = .ext i s' → kx i
 | i :: j :: r => (out = .ext i s' → kx i) ∧ extAll out s' kx (j :: r)
def endsP (exts : List Nat) (rets : Bool) (A X R : Prop) : Prop :=
 match exts, rets with
 | [], false => A
 | [], true => A ∧ R
 | _ :: _, false => A ∧ X
 | _ :: _, true => A ∧ X ∧ R
theorem endsP_iff {exts : List Nat} {rets : Bool} {A X R : Prop} (hX : exts = [] → X) : endsP exts rets A X R ↔ A ∧ X ∧ (rets = true → R) := by
 cases exts with
 | nil => cases rets <;> simp [endsP, hX rfl]
 | cons => cases rets <;> simp [endsP]
abbrev RET : Nat := 9999
def toAs : (t : Ty) → El t → List VV
 | .pair a b, x => [toVV a x.1, toVV b x.2]
 | t, x => [toVV t x]
def nArgs : Ty → Nat
 | .pair _ _ => 2
 | _ => 1
def putVs : List (Nat × VV) → List Nat → List VV → List (Nat × VV)
 | e, p :: ps, v :: vs => putVs (put e (some p) v) ps vs
 | e, _, _ => e
def loopP (id : Nat) (A : Prop) : Prop := A
abbrev StR (P : Program) (W : World) (fr0 : F0) (w : Wd) (st : St) (aenv : Env) (σ : AH) (ds : List Nat) : Prop := ER P W w st.nx st.env aenv ∧ HR P W fr0 w st σ ds
def wpE (Γ : Ctx) (rvs : List RV) (rts : List Ty) (Λ : Nat → Option (Loop (ElT rts))) (Λr : Nat → Option (RLoop (ElT rts))) : Bool → List Nat → AC → St → (St → Prop) → (Nat → St → Prop) → (ElT rts → Prop) → Prop
 | top, ro, .skip, st, kn, kx, kR => kn st
 | top, ro, .seq a b, st, kn, kx, kR => wpE Γ rvs rts Λ Λr top ro a st (fun st' => wpE Γ rvs rts Λ Λr top ro b st' kn kx kR) kx kR
 | top, ro, .reg ops [], st, kn, kx, kR => wpOE Γ ro ops st kn
 | top, ro, .dreg hd tl [], st, kn, kx, kR => if (newsOf hd).all (fun p => !ro.contains p.1) = true then wpHE Γ ro hd st fun st1 => newsE (newsOf hd) st1 fun st2 => wpOE Γ ro tl st2 kn else False
 | top, ro, .cond z a b, st, kn, kx, kR => match evX st.env [] z with
   | .bool e => ifB e (wpE Γ rvs rts Λ Λr top ro a st kn kx kR) (wpE Γ rvs rts Λ Λr top ro b st kn kx kR)
   | _ => False
 | top, ro, .block id (.loop x), st, kn, kx, kR => match Λ id with
   | some lp => if lp.chk ro (frz ro lp.fz st) = true then match lp.decC (frz ro lp.fz st), lp.dec (frz ro lp.fz st) with
     | some c, some (s, live) =>
       lp.inv c s ∧
       loopP id (allT lp.cts fun c => allT lp.vts fun s => lp.inv c s → wpE Γ rvs rts Λ Λr top lp.ro x (lp.body c s)
        (fun st' => match lp.dec (frz lp.ro lp.fz st') with
         | some (s', _) => lp.inv c s' ∧ lp.meas c s' < lp.meas c s ∧ lp.out c s' = lp.out c s
         | none => False)
        (fun i st' => match lp.dec st' with
         | some (s', _) => if i = id then (if i = RET then False else lp.out c s = .brk s') else if lp.exts.contains i = true then lp.out c s = .ext i s' else False
         | none => False)
        (fun r => match lp.rets with
         | true => lp.out c s = .ret r
         | false => False)) ∧
       endsP lp.exts lp.rets (allT lp.vts fun s' => lp.out c s = .brk s' → kn (lp.after (frz ro lp.fz st) live s')) (allT lp.vts fun s' => extAll (lp.out c s) s' (fun i => kx i (lp.after (frz ro lp.fz st) live s')) lp.exts) (allT rts fun r => lp.out c s = .ret r → kR r)
     | _, _ => False
     else False
   | none => False
 | top, ro, .block id (.rangeF z ps asg body), st, kn, kx, kR => match top, Λr id, evX st.env [] z with
   | true, some lp, .iter t xs => if h : t = lp.t then if lp.chk ro st = true ∧ lp.vs = [] ∧ ps.length = nArgs lp.t ∧ ps.all (fun p => !lp.ro.contains p) = true ∧ (lp.rets = true → rvs.all (fun r => lp.ro.contains (match r with | .t n => n | .cell n _ _ => n)) = true) then match lp.decC st, lp.dec st with
     | some c, some (s, live) =>
       lp.inv c (h ▸ xs) s ∧
       (allT lp.cts fun c => allT lp.vts fun s => lp.inv c [] s → lp.out c [] s = .brk s) ∧
       loopP id (allT lp.cts fun c => ∀ (x : El lp.t) (r : List (El lp.t)), allT lp.vts fun s => lp.inv c (x :: r) s →
        wpE Γ rvs rts Λ Λr false lp.ro asg { (lp.body c s) with env := putVs (lp.body c s).env ps (toAs lp.t x) }
         (fun st1 => wpE Γ rvs rts Λ Λr false lp.ro body st1
          (fun st' => match lp.dec st' with
           | some (s', _) => lp.inv c r s' ∧ lp.out c r s' = lp.out c (x :: r) s
           | none => False)
          (fun i st' => match lp.dec st' with
           | some (s', _) => if i = id then (if i = RET then False else lp.out c (x :: r) s = .brk s') else if lp.exts.contains i = true then lp.out c (x :: r) s = .ext i s' else False
           | none => False)
          (fun r' => match lp.rets with
           | true => lp.out c (x :: r) s = .ret r'
           | false => False))
         (fun _ _ => False) (fun _ => False)) ∧
       endsP lp.exts lp.rets (allT lp.vts fun s' => lp.out c (h ▸ xs) s = .brk s' → kn (lp.after st live s')) (allT lp.vts fun s' => extAll (lp.out c (h ▸ xs) s) s' (fun i => kx i (lp.after st live s')) lp.exts) (allT rts fun r => lp.out c (h ▸ xs) s = .ret r → kR r)
     | _, _ => False
     else False
     else False
   | _, _, _ => False
 | top, ro, .block id a, st, kn, kx, kR => wpE Γ rvs rts Λ Λr top ro a st kn (fun i st' => if i = id then (if i = RET then False else kn st') else kx i st') kR
 | top, ro, .exit i, st, kn, kx, kR => if i = RET then False else kx i (optFz ro st (Λ i))
 | top, ro, .ret, st, kn, kx, kR => match resT rvs rts (frz ro (rvFz rvs rts) st) with
   | some r => kR r
   | none => kx RET (frz ro (rvFz rvs rts) st)
 | _, _, _, _, _, _, _ => False
end
end Go.AL
namespace Go.AL
open Go.RowKit
set_option linter.unusedVariables false
set_option linter.unusedSimpArgs false
set_option linter.unusedSectionVars false
section
variable [Uni3] {P : Program} {W : World} {fr0 : F0} {Γ : Ctx} {rvs : List RV} {rts : List Ty} {Λ : Nat → Option (Loop (ElT rts))} {Λr : Nat → Option (RLoop (ElT rts))} {n : Nat} {rof : Option Nat}
 {Q : Out → Env → AH → List Nat → Prop}
theorem allT_iff : ∀ {ts : List Ty} {F : ElT ts → Prop}, allT ts F ↔ ∀ x, F x
 | [], F => ⟨fun h _ => h, fun h => h ()⟩
 | [t], F => Iff.rfl
 | t :: u :: ts, F => by
   simp only [allT, allT_iff (ts := u :: ts)]
   exact ⟨fun h x => h x.1 x.2, fun h x r => h (x, r)⟩
theorem extAll_iff {S R : Type} {out : LOut S R} {s' : S} {kx : Nat → Prop} : ∀ {l : List Nat}, extAll out s' kx l ↔ ∀ i ∈ l, out = .ext i s' → kx i
 | [] => by simp [extAll]
 | [i] => by simp [extAll]
 | i :: j :: r => by
   rw [extAll, extAll_iff (l := j :: r)]
   simp
def ExitOK (P : Program) (W : World) (rof : Option Nat) (n : Nat) (Q : Out → Env → AH → List Nat → Prop) (i : Nat) (K : List AItem) (env : Env) (σ : AH) (ds : List Nat) : Prop :=
 (i ≠ RET ∧ ((∃ K', exitA i K = some K' ∧ AW P W rof n Q K' env σ ds) ∨ (exitA i K = none ∧ Q (.exit i) env σ ds))) ∨ (i = RET ∧ Q .ret env σ ds)
theorem ExitOK.aw {i : Nat} {K : List AItem} {env : Env} {σ : AH} {ds : List Nat} (hi : i ≠ RET) (h : ExitOK P W rof n Q i K env σ ds) : AW P W rof n Q (.c (.exit i) :: K) env σ ds := by
 rcases h with ⟨_, ⟨K', h1, h2⟩ | ⟨h1, h2⟩⟩ | ⟨h1, _⟩
 ·exact AW.exit h1 h2
 ·exact AW.exitOut h1 h2
 ·exact absurd h1 hi
theorem ExitOK.awR {K : List AItem} {env : Env} {σ : AH} {ds : List Nat} (h : ExitOK P W rof n Q RET K env σ ds) : AW P W rof n Q (.c .ret :: K) env σ ds := by
 rcases h with ⟨h1, _⟩ | ⟨_, h2⟩
 ·exact absurd rfl h1
 ·exact AW.ret h2
theorem ExitOK.skip {i : Nat} {x : AItem} {K : List AItem} {env : Env} {σ : AH} {ds : List Nat} (h : ExitOK P W rof n Q i K env σ ds) (hx : exitA i (x :: K) = exitA i K) : ExitOK P W rof n Q i (x :: K) env σ ds := by
 rcases h with ⟨h0, ⟨K', h1, h2⟩ | ⟨h1, h2⟩⟩ | h1
 ·exact .inl ⟨h0, .inl ⟨K', hx.trans h1, h2⟩⟩
 ·exact .inl ⟨h0, .inr ⟨hx.trans h1, h2⟩⟩
 ·exact .inr h1
structure Later (ro : List Nat) (st st' : St) (w w' : Wd) (aenv aenv' : Env) : Prop where
 le : Wd.le st.nx w w'
 nx : st.nx ≤ st'.nx
 ro : ∀ t ∈ ro, aenv'.get t = aenv.get t
theorem Later.trans {ro : List Nat} {st st' st'' : St} {w w' w'' : Wd} {a a' a'' : Env} (h : Later ro st st' w w' a a') (k : Later ro st' st'' w' w'' a' a'') : Later ro st st'' w w'' a a'' :=
 ⟨Wd.le_trans h.le k.le h.nx, Nat.le_trans h.nx k.nx, fun t ht => (k.ro t ht).trans (h.ro t ht)⟩
theorem Later.refl (ro : List Nat) (st : St) (w : Wd) (a : Env) : Later ro st st w w a a := ⟨Wd.le_refl _ _, Nat.le_refl _, fun _ _ => rfl⟩
def CodeOK (P : Program) (W : World) (fr0 : F0) (Γ : Ctx) (rvs : List RV) (rts : List Ty) (Λ : Nat → Option (Loop (ElT rts))) (Λr : Nat → Option (RLoop (ElT rts))) (n : Nat) (top : Bool) (rof : Option Nat) (Q : Out → Env → AH → List Nat → Prop) (c : AC) : Prop :=
 ∀ (ro : List Nat) (st : St) (kn : St → Prop) (kx : Nat → St → Prop) (kR : ElT rts → Prop), wpE Γ rvs rts Λ Λr top ro c st kn kx kR → ∀ (w : Wd) (aenv : Env) (σ : AH) (ds : List Nat) (K : List AItem), StR P W fr0 w st aenv σ ds →
   (∀ st' w' aenv' σ' ds', kn st' → StR P W fr0 w' st' aenv' σ' ds' → Later ro st st' w w' aenv aenv' → AW P W rof n Q K aenv' σ' ds') →
   (∀ i st' w' aenv' σ' ds', kx i st' → StR P W fr0 w' st' aenv' σ' ds' → Later ro st st' w w' aenv aenv' → ExitOK P W rof n Q i K aenv' σ' ds') →
   (∀ r st' w' aenv' σ' ds', kR r → resT rvs rts st' = some r → StR P W fr0 w' st' aenv' σ' ds' → w.fr.le w'.fr → (∀ t ∈ ro, aenv'.get t = aenv.get t) → Q .ret aenv' σ' ds') →
   AW P W rof n Q (.c c :: K) aenv σ ds
theorem Env.drop_nil (e : Env) : e.drop [] = e := by simp [Env.drop]
theorem CodeOK.reg {top : Bool} (hΓ : CtxOK P W Γ) (ops : List AI) (dead : List Nat) : CodeOK P W fr0 Γ rvs rts Λ Λr n top rof Q (.reg ops dead) := by
 intro ro st kn kx kR h w aenv σ ds K hs hn hx hr
 cases dead with
 | cons _ _ => simp [wpE] at h
 | nil =>
   simp only [wpE] at h
   refine AW.reg (wpOE_sound hΓ ops st w aenv σ h hs.1 hs.2 fun st' w' aenv' σ' h1 h2 h3 h4 h5 h6 => ?_)
   rw [Env.drop_nil]
   exact hn st' w' aenv' σ' ds h1 ⟨h2, h3⟩ ⟨h4, h5, h6⟩
theorem CodeOK.dreg {top : Bool} (hΓ : CtxOK P W Γ) (hd tl : List AI) (dead : List Nat) : CodeOK P W fr0 Γ rvs rts Λ Λr n top rof Q (.dreg hd tl dead) := by
 intro ro st kn kx kR h w aenv σ ds K hs hn hx hr
 cases dead with
 | cons _ _ => simp [wpE] at h
 | nil =>
   simp only [wpE] at h
   split at h
   ·rename_i hro
    refine AW.dreg (wpHE_sound hΓ hd st aenv h hs.1 hs.2 fun env1 aenv1 h1 h2 h3 => fun τ hτ => ?_)
    have hr1 : HR P W fr0 w { st with env := env1 } τ ds := (hs.2.withEnv env1).grow hτ
    refine newsE_sound (ro := ro) _ [] { st with env := env1 } w aenv1 h1 (fun p hp => ?_) h2 hr1 hs.2.fr (fun x o hx => ?_) fun st2 w2 aenv2 k1 k2 k3 k4 k5 k6 => ?_
    ·have := List.all_eq_true.1 hro p hp
     simpa using this
    ·obtain ⟨ao, h4, _⟩ := hs.2.obj x o hx
     exact .inl (by rw [h4]; simp)
    ·refine wpOE_sound hΓ tl st2 w2 aenv2 τ k1 k2 k3 fun st' w' aenv' σ' l1 l2 l3 l4 l5 l6 => ?_
     rw [Env.drop_nil]
     exact hn st' w' aenv' σ' ds l1 ⟨l2, l3⟩ ⟨Wd.le_trans k4 l4 k5, Nat.le_trans k5 l5, fun t ht => ((l6 t ht).trans (k6 t ht)).trans (h3 t ht)⟩
   ·exact h.elim
theorem CodeOK.seq {top : Bool} {a b : AC} (ha : CodeOK P W fr0 Γ rvs rts Λ Λr n top rof Q a) (hb : CodeOK P W fr0 Γ rvs rts Λ Λr n top rof Q b) : CodeOK P W fr0 Γ rvs rts Λ Λr n top rof Q (.seq a b) := by
 intro ro st kn kx kR h w aenv σ ds K hs hn hx hr
 simp only [wpE] at h
 refine AW.seq (ha ro st _ kx kR h w aenv σ ds (.c b :: K) hs (fun st' w' aenv' σ' ds' h1 h2 h3 => ?_) (fun i st' w' aenv' σ' ds' h1 h2 h3 => (hx i st' w' aenv' σ' ds' h1 h2 h3).skip rfl) hr)
 exact hb ro st' kn kx kR h1 w' aenv' σ' ds' K h2 (fun st'' w'' aenv'' σ'' ds'' k1 k2 k3 => hn _ _ _ _ _ k1 k2 (h3.trans k3)) (fun i st'' w'' aenv'' σ'' ds'' k1 k2 k3 => hx _ _ _ _ _ _ k1 k2 (h3.trans k3))
  fun r st'' w'' aenv'' σ'' ds'' k1 k2 k3 k4 k5 => hr r st'' w'' aenv'' σ'' ds'' k1 k2 k3 (AH.le_trans h3.le.fr k4) fun t ht => (k5 t ht).trans (h3.ro t ht)
theorem CodeOK.cond {top : Bool} {z : AX} {a b : AC} (ha : CodeOK P W fr0 Γ rvs rts Λ Λr n top rof Q a) (hb : CodeOK P W fr0 Γ rvs rts Λ Λr n top rof Q b) : CodeOK P W fr0 Γ rvs rts Λ Λr n top rof Q (.cond z a b) := by
 intro ro st kn kx kR h w aenv σ ds K hs hn hx hr
 simp only [wpE] at h
 have rz := evX_rel hs.1 (gs := []) (fun g hg => by cases hg) z
 split at h
 ·rename_i e he
  rw [he] at rz
  simp only [VRel] at rz
  refine AW.cond rz ?_
  cases e with
  | true => exact ha ro st kn kx kR h w aenv σ ds K hs hn hx hr
  | false => exact hb ro st kn kx kR h w aenv σ ds K hs hn hx hr
 ·exact h.elim
theorem CodeOK.block {top : Bool} {id : Nat} {a : AC} (ha : CodeOK P W fr0 Γ rvs rts Λ Λr n top rof Q a) {ro : List Nat} {st : St} {kn : St → Prop} {kx : Nat → St → Prop} {kR : ElT rts → Prop}
  (h : wpE Γ rvs rts Λ Λr top ro a st kn (fun i st' => if i = id then (if i = RET then False else kn st') else kx i st') kR) {w : Wd} {aenv : Env} {σ : AH} {ds : List Nat} {K : List AItem} (hs : StR P W fr0 w st aenv σ ds)
  (hn : ∀ st' w' aenv' σ' ds', kn st' → StR P W fr0 w' st' aenv' σ' ds' → Later ro st st' w w' aenv aenv' → AW P W rof n Q K aenv' σ' ds')
  (hx : ∀ i st' w' aenv' σ' ds', kx i st' → StR P W fr0 w' st' aenv' σ' ds' → Later ro st st' w w' aenv aenv' → ExitOK P W rof n Q i K aenv' σ' ds')
  (hr : ∀ r st' w' aenv' σ' ds', kR r → resT rvs rts st' = some r → StR P W fr0 w' st' aenv' σ' ds' → w.fr.le w'.fr → (∀ t ∈ ro, aenv'.get t = aenv.get t) → Q .ret aenv' σ' ds') : AW P W rof n Q (.c (.block id a) :: K) aenv σ ds := by
 refine AW.block (ha ro st kn _ kR h w aenv σ ds (.blk id :: K) hs (fun st' w' aenv' σ' ds' h1 h2 h3 => AW.blk (hn _ _ _ _ _ h1 h2 h3)) (fun i st' w' aenv' σ' ds' h1 h2 h3 => ?_) hr)
 split at h1
 ·rename_i hi
  split at h1
  ·exact h1.elim
  ·rename_i hr
   exact .inl ⟨hr, .inl ⟨K, by simp [exitA, hi], hn _ _ _ _ _ h1 h2 h3⟩⟩
 ·rename_i hi
  exact (hx _ _ _ _ _ _ h1 h2 h3).skip (by simp [exitA, Ne.symm hi])
theorem LD.chk_spec {d : LD} {ro : List Nat} {st : St} (h : d.chk ro st = true) : LDok d ∧ st.nx ≤ d.nx ∧ (∀ p ∈ d.pts, sameV (lk st.env p.1) p.2 = true) ∧ ∀ t ∈ ro, t ∈ d.ro := by
 simp only [LD.chk, Bool.and_eq_true, decide_eq_true_eq, List.all_eq_true] at h
 exact ⟨LD.ok_spec h.1.1.1, h.1.1.2, h.1.2, fun t ht => by simpa using h.2 t ht⟩
theorem LD.decC_rel {d : LD} {st : St} {c : ElT d.cts} {w : Wd} {aenv : Env} (h : d.decC st = some c) (he : ER P W w st.nx st.env aenv) : (d.cs.map aenv.get).map AV.bare = encTs d.cts c :=
 asTs_rel _ _ _ _ h (ER_map he d.cs)
theorem CodeOK.loop {top : Bool} {id : Nat} {x : AC} (ha : CodeOK P W fr0 Γ rvs rts Λ Λr n top rof Q x) : CodeOK P W fr0 Γ rvs rts Λ Λr n top rof Q (.block id (.loop x)) := by
 intro ro st kn kx kR h w aenv σ ds K hs hn hx hr
 simp only [wpE] at h
 split at h
 ·rename_i lp hlp
  obtain ⟨aenvF, σF, hsF, hnxF, hroF, hawF⟩ := frz_sound ro lp.fz hs.1 hs.2
  refine hawF _ _ _ _ ?_
  have hLF : Later ro st (frz ro lp.fz st) w w aenv aenvF := ⟨Wd.le_refl _ _, by omega, hroF⟩
  replace hn := fun st' w' aenv' σ' ds' (a : kn st') b c => hn st' w' aenv' σ' ds' a b (hLF.trans c)
  replace hx := fun i st' w' aenv' σ' ds' (a : kx i st') b c => hx i st' w' aenv' σ' ds' a b (hLF.trans c)
  replace hr := fun r st' w' aenv' σ' ds' (a : kR r) b c d (e : ∀ t ∈ ro, aenv'.get t = aenvF.get t) => hr r st' w' aenv' σ' ds' a b c d (fun t ht => (e t ht).trans (hroF t ht))
  split at h
  ·rename_i hchk
   obtain ⟨hd, hnx, hpts, hroS⟩ := LD.chk_spec hchk
   split at h
   ·rename_i c s live hc hdec
    obtain ⟨hinv, hstep, hends⟩ := h
    rw [endsP_iff (fun he => by rw [he, allT_iff]; exact fun _ => trivial)] at hends
    obtain ⟨hbrk, hext, hret⟩ := hends
    simp only [loopP, allT_iff] at hstep hbrk hext hret
    obtain ⟨as, hL⟩ := LD.dec_rel hdec hsF.1 hsF.2
    have hC := LD.decC_rel hc hsF.1
    have hP0 : ∀ p ∈ lp.pts, VRel P W w (frz ro lp.fz st).nx p.2 (aenvF.get p.1) := fun p hp => by
     have h1 := hsF.1 p.1
     rw [sameV_eq _ _ (hpts p hp)] at h1
     exact (SR_plain (hOk_cnd (hd.pts p hp).1)).1 h1
    -- what is behind the loop
    have behind : ∀ (st' : St) (w' : Wd) (aenv' : Env) (σ' : AH) (ds' : List Nat) (s' : ElT lp.vts) (l' : List Nat), lp.dec st' = some (s', l') → StR P W fr0 w' st' aenv' σ' ds' →
      (∀ h, h < lp.nx → w'.ρ h = w.ρ h ∧ w'.tk h = w.tk h) → (lp.rest fr0 w σF as).le w'.fr → (∀ t ∈ lp.ro, aenv'.get t = aenvF.get t) →
      ∃ w2, StR P W fr0 w2 (lp.after (frz ro lp.fz st) live s') aenv' σ' ds' ∧ Later ro (frz ro lp.fz st) (lp.after (frz ro lp.fz st) live s') w w2 aenvF aenv' := fun st' w' aenv' σ' ds' s' l' h1 h2 h3 h4 h5 => by
     obtain ⟨as', hL'⟩ := LD.dec_rel h1 h2.1 h2.2
     obtain ⟨w2, k1, k2, k3⟩ := LD.after_rel hd hsF.2 hsF.1 hL h2.2 hL' (fun h hh => (h3 h hh).1) (fun _ h hh => (h3 h hh).2) h4 hnx h5
     exact ⟨w2, ⟨k2, k3⟩, k1, by simp only [LD.after]; omega, fun t ht => h5 t (hroS t ht)⟩
    -- all rounds
    have rounds : ∀ (m : Nat) (s1 : ElT lp.vts) (w1 : Wd) (aenv1 : Env) (σ1 : AH) (ds1 : List Nat), lp.meas c s1 = m → lp.inv c s1 → lp.out c s1 = lp.out c s → StR P W fr0 w1 (lp.body c s1) aenv1 σ1 ds1 →
      (∀ h, h < lp.nx → w1.ρ h = w.ρ h ∧ w1.tk h = w.tk h) → (lp.rest fr0 w σF as).le w1.fr → (∀ t ∈ lp.ro, aenv1.get t = aenvF.get t) → AW P W rof n Q (.c x :: .lp x :: .blk id :: K) aenv1 σ1 ds1 := by
     intro m
     induction m using Nat.strongRecOn with
     | _ m ih =>
       intro s1 w1 aenv1 σ1 ds1 hm hi ho hs1 hρ1 hf1 hro1
       refine ha lp.ro (lp.body c s1) _ _ _ (hstep c s1 hi) w1 aenv1 σ1 ds1 (.lp x :: .blk id :: K) hs1 (fun st' w' aenv' σ' ds' h1 h2 h3 => ?_) (fun i st' w' aenv' σ' ds' h1 h2 h3 => ?_) (fun r st' w' aenv' σ' ds' h1 h2 h3 h4 h5 => ?_)
       ·split at h1
        ·rename_i s' l' hdec'
         obtain ⟨g1, g2, g3⟩ := h1
         obtain ⟨aenvG, σG, h2G, hnxG, hroG, hawG⟩ := frz_sound lp.ro lp.fz h2.1 h2.2
         refine hawG _ _ _ _ ?_
         have h3G := h3.trans (⟨Wd.le_refl _ _, by omega, hroG⟩ : Later lp.ro st' (frz lp.ro lp.fz st') w' w' aenv' aenvG)
         clear hroG hawG h2 h3
         obtain ⟨as', hL'⟩ := LD.dec_rel hdec' h2G.1 h2G.2
         have hρ' : ∀ h, h < lp.nx → w'.ρ h = w.ρ h ∧ w'.tk h = w.tk h := fun h hh => ⟨(h3G.le.ρ h (by simp only [LD.body]; omega)).trans (hρ1 h hh).1, (h3G.le.tk h (by simp only [LD.body]; omega)).trans (hρ1 h hh).2⟩
         have hro' : ∀ t ∈ lp.ro, aenvG.get t = aenvF.get t := fun t ht => (h3G.ro t ht).trans (hro1 t ht)
         have hC' : (lp.cs.map aenvG.get).map AV.bare = encTs lp.cts c := by
          rw [← hC]; congr 1
          exact List.map_congr_left fun t ht => hro' t (hd.cs t ht)
         have hP' : ∀ p ∈ lp.pts, VRel P W w' (max (frz lp.ro lp.fz st').nx lp.nx) p.2 (aenvG.get p.1) := fun p hp => by
          rw [hro' p.1 (hd.pts p hp).2]
          exact hOk_rel (n := lp.nx) (fun h hh => (hρ' h hh).1) (by omega) _ (fun _ h hh => (hρ' h hh).2) (hd.pts p hp).1 (hP0 p hp)
         obtain ⟨w2, k1, k2, k3, k4, k5, k6⟩ := LD.canon hd h2G.2 hL' hC' hP' (AH.le_refl _) (AH.le_trans h2G.2.base (hL'.fr_le h2G.2))
         refine AW.lp (ih (lp.meas c s') (by omega) s' w2 aenvG σG ds' rfl g1 (g3.trans ho) ⟨k4, k5⟩ (fun h hh => by rw [k1, k6 h hh]; exact hρ' h hh) ?_ hro')
         rw [k2]
         exact AH.le_trans hf1 (AH.le_trans h3G.le.fr (hL'.fr_le h2G.2))
        ·exact h1.elim
       ·split at h1
        ·rename_i s' l' hdec'
         have hρ' : ∀ h, h < lp.nx → w'.ρ h = w.ρ h ∧ w'.tk h = w.tk h := fun h hh => ⟨(h3.le.ρ h (by simp only [LD.body]; omega)).trans (hρ1 h hh).1, (h3.le.tk h (by simp only [LD.body]; omega)).trans (hρ1 h hh).2⟩
         have hro' : ∀ t ∈ lp.ro, aenv'.get t = aenvF.get t := fun t ht => (h3.ro t ht).trans (hro1 t ht)
         obtain ⟨w2, k1, k2⟩ := behind st' w' aenv' σ' ds' s' l' hdec' h2 hρ' (AH.le_trans hf1 h3.le.fr) hro'
         split at h1
         ·rename_i hi'
          split at h1
          ·exact h1.elim
          ·rename_i hr'
           rw [ho] at h1
           exact .inl ⟨hr', .inl ⟨K, by simp [exitA, hi'], hn _ _ _ _ _ (hbrk s' h1) k1 k2⟩⟩
         ·rename_i hi'
          split at h1
          ·rename_i hmem
           rw [ho] at h1
           have hk : kx i (lp.after (frz ro lp.fz st) live s') := extAll_iff.1 (hext s') i (by simpa using hmem) h1
           exact ((hx i _ _ _ _ _ hk k1 k2).skip (x := .blk id) (by simp [exitA, Ne.symm hi'])).skip (x := .lp x) rfl
          ·exact h1.elim
        ·exact h1.elim
       ·split at h1
        ·rename_i hrets
         rw [ho] at h1
         exact hr r st' w' aenv' σ' ds' (hret hrets r h1) h2 h3 (AH.le_trans (AH.le_trans (hL.fr_le hsF.2) hf1) h4) fun t ht => (h5 t (hroS t ht)).trans (hro1 t (hroS t ht))
        ·exact h1.elim
    have hP : ∀ p ∈ lp.pts, VRel P W w (max (frz ro lp.fz st).nx lp.nx) p.2 (aenvF.get p.1) := fun p hp => (hP0 p hp).mono (Wd.le_refl _ _) (by omega)
    obtain ⟨w2, k1, k2, k3, k4, k5, k6⟩ := LD.canon hd hsF.2 hL hC hP (AH.le_refl _) (AH.le_trans hsF.2.base (hL.fr_le hsF.2))
    refine AW.block (AW.loop (rounds _ s w2 aenvF σF ds rfl hinv rfl ⟨k4, k5⟩ (fun h hh => ⟨by rw [k1], k6 h hh⟩) (by rw [k2]; exact AH.le_refl _) fun _ _ => rfl))
   ·exact h.elim
  ·exact h.elim
 ·exact h.elim
end
end Go.AL
namespace Go.AL
open Go.RowKit
set_option linter.unusedVariables false
set_option linter.unusedSimpArgs false
set_option linter.unusedSectionVars false
def codeOf (P : Program) (f : Nat) : Option (Nat × List RV × AC) :=
 match P.funcs[f]? with
 | none => none
 | some fn => match fn.body with
   | none => none
   | some c => if (fn.name == "runtime.NumGoroutine") = true then none else match comp P fn.ntmps [] c, compRVs P fn.results.toList with
     | some ac, some rvs => some (fn.ntmps, rvs, ac)
     | _, _ => none
theorem codeOf_spec {P : Program} {f n : Nat} {rvs : List RV} {ac : AC} (h : codeOf P f = some (n, rvs, ac)) :
  ∃ fn c, P.funcs[f]? = some fn ∧ fn.body = some c ∧ (fn.name == "runtime.NumGoroutine") = false ∧ comp P fn.ntmps [] c = some ac ∧ compRVs P fn.results.toList = some rvs ∧ fn.ntmps = n := by
 unfold codeOf at h
 split at h
 ·cases h
 ·rename_i fn hfn
  split at h
  ·cases h
  ·rename_i c hc
   split at h
   ·cases h
   ·rename_i hname
    split at h
    ·rename_i ac' rvs' hac hrv
     cases h
     exact ⟨fn, c, hfn, hc, by simpa using hname, hac, hrv, rfl⟩
    ·cases h
section
variable [Uni3]
def encR : (ts : List Ty) → ElT ts → AV
 | [], _ => .tup []
 | [t], x => encE t x
 | t :: u :: ts, x => .tup (encTs (t :: u :: ts) x)
def resVV : (ts : List Ty) → ElT ts → VV
 | [], _ => .tup []
 | [t], x => toVV t x
 | t :: u :: ts, x => .tup (toVs (t :: u :: ts) x)
def initSt (ps : List Ty) (a : ElT ps) : St := { env := (List.range ps.length).zip (toVs ps a), hp := [], live := [], nx := 0 }
def wpF (P : Program) (Γ : Ctx) (f : Nat) (ps rs : List Ty) (Λ : Nat → Option (Loop (ElT rs))) (Λr : Nat → Option (RLoop (ElT rs))) (a : ElT ps) (R : ElT rs → Prop) : Prop :=
 match codeOf P f with
 | some (n, rvs, ac) => if ps.length ≤ n then wpE Γ rvs rs Λ Λr true [] ac (initSt ps a) (fun st' => match resT rvs rs st' with
   | some r => R r
   | none => False) (fun _ _ => False) R else False
 | none => False
def FunOK (P : Program) (W : World) (f : Nat) (ps rs : List Ty) (pre : ElT ps → Prop) (spec : ElT ps → ElT rs) : Prop :=
 ∀ a, pre a → ∀ as, as.map AV.bare = encTs ps a → ∀ σ, ACall P W f as σ fun v σ' => Sim v (encR rs (spec a)) ∧ σ.le σ'
def preC {ts : List Ty} : Option (ElT ts → Prop) → ElT ts → Prop
 | none, _ => True
 | some p, a => p a
def pureCtr (ps rs : List Ty) (pre : Option (ElT ps → Prop)) (spec : ElT ps → ElT rs) : Ctr where
 pv vs := match asTs ps vs with
  | some a => some ⟨(match pre with | some p => some (p a) | none => none), none, resVV rs (spec a)⟩
  | none => none
 run vs st K := match asTs ps vs with
  | some a => addC (match pre with | some p => some (p a) | none => none) (allT rs fun r => spec a = r → K (resVV rs r) st)
  | none => False
def lookC : List (Nat × Ctr) → Ctx
 | [], _ => none
 | (a, c) :: l, g => if a = g then some c else lookC l g
variable {P : Program} {W : World} {fr0 : F0} {w : Wd} {st : St} {σ : AH} {ds : List Nat} {aenv : Env} {nx : Nat}
theorem lookC_ok : ∀ {l : List (Nat × Ctr)}, (∀ p ∈ l, CtrOK P W p.1 p.2) → CtxOK P W (lookC l)
 | [], _, g, c, h => by cases h
 | (a, x) :: l, hl, g, c, h => by
   simp only [lookC] at h
   split at h
   ·rename_i hag; cases h; subst hag; exact hl (a, x) (by simp)
   ·exact lookC_ok (fun p hp => hl p (by simp [hp])) g c h
theorem resVV_rel : ∀ {ts : List Ty} {x : ElT ts} {v : AV}, Sim v (encR ts x) → VRel P W w nx (resVV ts x) v
 | [], x, v, h => by
   simp only [encR, resVV, VRel] at h ⊢
   rcases h with rfl | h | ⟨vs, rfl, h⟩
   ·exact ⟨[], rfl, by simp [VRelL]⟩
   ·cases v <;> simp only [AV.bare, reduceCtorEq] at h
    exact ⟨_, rfl, by cases h; simp [VRelL]⟩
   ·simp only [AV.tup.injEq] at h
    have : vs = [] := by simpa using h.symm
    subst this
    exact ⟨[], rfl, by simp [VRelL]⟩
 | [t], x, v, h => by
   simp only [encR, resVV] at h ⊢
   refine toVV_rel ?_
   rcases h with rfl | h | ⟨vs, rfl, h⟩
   ·exact encE_bare t x
   ·exact h
   ·cases t <;> simp [encE] at h
 | t :: u :: ts, x, v, h => by
   simp only [encR, resVV] at h ⊢
   have key : ∀ vs : List AV, vs.map AV.bare = encTs (t :: u :: ts) x → VRel P W w nx (.tup (toVs (t :: u :: ts) x)) (.tup vs) := fun vs hv => by
    simp only [VRel]; exact ⟨vs, rfl, toVs_rel _ _ _ hv⟩
   have hbb : ∀ (ts : List Ty) (x : ElT ts), (encTs ts x).map AV.bare = encTs ts x := by
    intro ts
    induction ts with
    | nil => intro x; rfl
    | cons t ts ih =>
      intro x
      cases ts with
      | nil => simp only [encTs, List.map_cons, List.map_nil, encE_bare]
      | cons u ts => simp only [encTs, List.map_cons, encE_bare]; rw [ih]
   rcases h with rfl | h | ⟨vs, rfl, h⟩
   ·exact key _ (hbb _ _)
   ·cases v <;> simp only [AV.bare, reduceCtorEq] at h
    cases h; exact key _ (hbb _ _)
   ·simp only [AV.tup.injEq] at h
    exact key vs h.symm
theorem pureCtr_ok {f : Nat} {ps rs : List Ty} {pre : Option (ElT ps → Prop)} {spec : ElT ps → ElT rs} (h : FunOK P W f ps rs (preC pre) spec) : CtrOK P W f (pureCtr ps rs pre spec) := by
 constructor
 ·intro vs pv hpv hc w nx as hr
  simp only [pureCtr] at hpv
  split at hpv
  ·rename_i a ha
   cases hpv
   have hp : preC pre a := by cases pre <;> first | trivial | exact hc
   exact ⟨trivial, encR rs (spec a), fun v hv => resVV_rel hv, fun σ _ => h a hp as (asTs_rel _ _ _ _ ha hr) σ⟩
  ·cases hpv
 ·intro vs st K hrun fr0 w σ ds as hH hr
  simp only [pureCtr] at hrun
  split at hrun
  ·rename_i a ha
   rw [addC_iff, allT_iff] at hrun
   have hp : preC pre a := by cases pre <;> first | trivial | exact hrun.1
   refine (h a hp as (asTs_rel _ _ _ _ ha hr) σ).mono fun v σ' ⟨h1, h2⟩ => ?_
   exact ⟨resVV rs (spec a), st, w, hrun.2 _ rfl, rfl, hH.grow h2, resVV_rel h1, Wd.le_refl _ _, Nat.le_refl _⟩
  ·exact hrun.elim
theorem delAll_get : ∀ (ds : List Nat) (σ : AH) (c : Nat), (σ.delAll ds) c = if c ∈ ds then none else σ c
 | [], σ, c => by simp [AH.delAll]
 | b :: ds, σ, c => by
   simp only [AH.delAll, delAll_get ds, AH.del, List.mem_cons]
   by_cases h1 : c ∈ ds
   ·simp [h1]
   ·by_cases h2 : c = b <;> simp [h1, h2]
theorem resV_rel {τ : AH} (he : ER P W w st.nx st.env aenv) (hr : HO P W w st.nx st.hp τ) : ∀ {rvs : List RV} {vvs : List VV} {K : List AV → Prop}, resV st rvs = some vvs → (∀ vs, VRelL P W w st.nx vvs vs → K vs) → resW aenv τ rvs K
 | [], vvs, K, h, hk => by cases h; exact hk [] (by simp [VRelL])
 | .t n :: rvs, vvs, K, h, hk => by
   simp only [resV] at h
   split at h
   ·rename_i l hl
    cases h
    simp only [resW]
    refine resV_rel he hr hl fun vs hv => hk _ ?_
    simp only [VRelL]
    refine ⟨_, _, rfl, ?_, hv⟩
    have := he n
    generalize lk st.env n = v at this
    cases v <;> first | (simp only [nocnd, VRel]; done) | exact this
   ·cases h
 | .cell n g sz :: rvs, vvs, K, h, hk => by
   simp only [resV] at h
   split at h
   ·rename_i hd o hlk1
    split at h
    ·rename_i k vs hvs
     split at h
     ·rename_i hkp
      subst hkp
      split at h
      ·rename_i l hl
       have hp := he n
       rw [hlk1] at hp
       simp only [SR, VRel] at hp
       obtain ⟨ao, h1, h2⟩ := hr _ _ hvs
       obtain ⟨as, rfl, h2'⟩ := ORel_cells.1 h2
       simp only [resW, hp.2, h1]
       split at h
       ·split at h
        ·rename_i hc
         cases h
         simp only [if_true]
         refine ⟨by rw [h2'.length]; exact hc.1, okcL_one hc.2 ((h2'.drop o).take sz), ?_⟩
         refine resV_rel he hr hl fun us hu => hk _ ?_
         simp only [VRelL]
         exact ⟨_, _, rfl, by simp only [VRel]; exact ⟨_, rfl, (h2'.drop o).take sz⟩, hu⟩
        ·cases h
       ·split at h
        ·rename_i v hv
         cases h
         simp only [Bool.false_eq_true, if_false]
         obtain ⟨a, h3, h4⟩ := h2'.get o hv
         have hlt : o < as.length := by
          rcases Nat.lt_or_ge o as.length with h5 | h5
          ·exact h5
          ·rw [List.getElem?_eq_none h5] at h3; cases h3
         refine ⟨hlt, ?_⟩
         refine resV_rel he hr hl fun us hu => hk _ ?_
         simp only [VRelL]
         exact ⟨_, _, rfl, by simpa [List.getD_eq_getElem?_getD, h3] using h4, hu⟩
        ·cases h
      ·cases h
     ·cases h
    ·cases h
   ·cases h
theorem one1_sim : ∀ {ts : List Ty} {x : ElT ts} {vs : List AV}, vs.map AV.bare = encTs ts x → Sim (one1 vs) (encR ts x)
 | [], x, vs, h => by
   have : vs = [] := by simpa [encTs] using h
   subst this; exact .inl rfl
 | [t], x, vs, h => by
   match vs, h with
   | [v], h =>
     simp only [encTs, List.map_cons, List.map_nil, List.cons.injEq, and_true] at h
     exact .inr (.inl h)
   | [], h => simp [encTs] at h
   | _ :: _ :: _, h => simp [encTs] at h
 | t :: u :: ts, x, vs, h => by
   match vs, h with
   | [], h => simp [encTs] at h
   | [_], h => simp only [encTs, List.map_cons, List.map_nil, List.cons.injEq] at h
               have := h.2
               cases ts <;> simp [encTs] at this
   | a :: b :: vs, h => exact .inr (.inr ⟨a :: b :: vs, rfl, by rw [h]; rfl⟩)
theorem atEnd_of {rvs : List RV} {rs : List Ty} {r : ElT rs} {R : AV → AH → Prop} (hs : StR P W fr0 w st aenv σ ds) (h : resT rvs rs st = some r) (hR : ∀ v τ, Sim v (encR rs r) → fr0.base.le τ → R v τ) :
  ds.Nodup ∧ (∀ b ∈ ds, σ b = some .marks) ∧ resW aenv (σ.delAll ds) rvs fun vs => R (one1 vs) (σ.delAll ds) := by
 have hbase : fr0.base.le (σ.delAll ds) := fun c o hc => by
  rw [delAll_get, if_neg]
  ·exact hs.2.fr _ _ (hs.2.base _ _ hc)
  ·intro hm
   rw [(hs.2.mrk c hm).2] at hc; cases hc
 refine ⟨hs.2.nd, fun b hb => (hs.2.mrk b hb).1, ?_⟩
 unfold resT at h
 split at h
 ·rename_i vvs hv
  refine resV_rel hs.1 (τ := σ.delAll ds) (fun x o hx => ?_) hv fun vs hvs => hR _ _ (one1_sim (asTs_rel _ _ _ _ h hvs)) hbase
  obtain ⟨ao, h1, h2⟩ := hs.2.obj x o hx
  refine ⟨ao, ?_, h2⟩
  rw [delAll_get, if_neg]
  ·exact h1
  ·intro hm
   rw [(hs.2.mrk _ hm).1] at h1
   cases h1
   cases h2.mine
 ·cases h
theorem wpE_all {Γ : Ctx} (hΓ : CtxOK P W Γ) {rvs : List RV} {rts : List Ty} {Λ : Nat → Option (Loop (ElT rts))} {Λr : Nat → Option (RLoop (ElT rts))} {n : Nat} {rof : Option Nat} {Q : Out → Env → AH → List Nat → Prop} {top : Bool}
  (hrange : ∀ id z ps a b, CodeOK P W fr0 Γ rvs rts Λ Λr n top rof Q (.block id (.rangeF z ps a b))) : ∀ c, CodeOK P W fr0 Γ rvs rts Λ Λr n top rof Q c
 | .skip => by
   intro ro st kn kx kR h w aenv σ ds K hs hn hx hr
   simp only [wpE] at h
   exact AW.skip (hn st w aenv σ ds h hs (.refl _ _ _ _))
 | .seq a b => .seq (wpE_all hΓ hrange a) (wpE_all hΓ hrange b)
 | .reg ops dead => .reg hΓ ops dead
 | .dreg hd tl dead => .dreg hΓ hd tl dead
 | .cond z a b => .cond (wpE_all hΓ hrange a) (wpE_all hΓ hrange b)
 | .loop x => by
   intro ro st kn kx kR h
   simp [wpE] at h
 | .exit id => by
   intro ro st kn kx kR h w aenv σ ds K hs hn hx hr
   simp only [wpE] at h
   split at h
   ·exact h.elim
   ·rename_i hi
    revert h
    cases Λ id with
    | none => exact fun h => (hx id st w aenv σ ds h hs (.refl _ _ _ _)).aw hi
    | some lp =>
      intro h
      obtain ⟨aenvF, σF, hsF, hnxF, hroF, hawF⟩ := frz_sound ro lp.fz hs.1 hs.2
      exact hawF _ _ _ _ ((hx id (frz ro lp.fz st) w aenvF σF ds h hsF ⟨Wd.le_refl _ _, by omega, hroF⟩).aw hi)
 | .ret => by
   intro ro st kn kx kR h w aenv σ ds K hs hn hx hr
   simp only [wpE] at h
   obtain ⟨aenvF, σF, hsF, hnxF, hroF, hawF⟩ := frz_sound ro (rvFz rvs rts) hs.1 hs.2
   refine hawF _ _ _ _ ?_
   split at h
   ·rename_i r hr'
    exact AW.ret (hr r _ w aenvF σF ds h hr' hsF (AH.le_refl _) hroF)
   ·exact (hx RET _ w aenvF σF ds h hsF ⟨Wd.le_refl _ _, by omega, hroF⟩).awR
 | .rangeF z ps a b => by
   intro ro st kn kx kR h
   simp [wpE] at h
 | .block id (.loop x) => .loop (wpE_all hΓ hrange x)
 | .block id (.rangeF z ps a b) => hrange id z ps a b
 | .block id .skip => fun ro st kn kx kR h w aenv σ ds K hs hn hx hr => CodeOK.block (wpE_all hΓ hrange .skip) (by simpa only [wpE] using h) hs hn hx hr
 | .block id (.seq a b) => fun ro st kn kx kR h w aenv σ ds K hs hn hx hr => CodeOK.block (wpE_all hΓ hrange (.seq a b)) (by simpa only [wpE] using h) hs hn hx hr
 | .block id (.reg a b) => fun ro st kn kx kR h w aenv σ ds K hs hn hx hr => CodeOK.block (wpE_all hΓ hrange (.reg a b)) (by simpa only [wpE] using h) hs hn hx hr
 | .block id (.dreg a b c) => fun ro st kn kx kR h w aenv σ ds K hs hn hx hr => CodeOK.block (wpE_all hΓ hrange (.dreg a b c)) (by simpa only [wpE] using h) hs hn hx hr
 | .block id (.cond a b c) => fun ro st kn kx kR h w aenv σ ds K hs hn hx hr => CodeOK.block (wpE_all hΓ hrange (.cond a b c)) (by simpa only [wpE] using h) hs hn hx hr
 | .block id (.block i a) => fun ro st kn kx kR h w aenv σ ds K hs hn hx hr => CodeOK.block (wpE_all hΓ hrange (.block i a)) (by simpa only [wpE] using h) hs hn hx hr
 | .block id (.exit i) => fun ro st kn kx kR h w aenv σ ds K hs hn hx hr => CodeOK.block (wpE_all hΓ hrange (.exit i)) (by simpa only [wpE] using h) hs hn hx hr
 | .bad => by
   intro ro st kn kx kR h
   simp [wpE] at h
 | .block id .bad => by
   intro ro st kn kx kR h
   simp [wpE] at h
 | .block id .ret => fun ro st kn kx kR h w aenv σ ds K hs hn hx hr => CodeOK.block (wpE_all hΓ hrange .ret) (by simpa only [wpE] using h) hs hn hx hr
theorem wpE_round {Γ : Ctx} (hΓ : CtxOK P W Γ) {rvs : List RV} {rts : List Ty} {Λ : Nat → Option (Loop (ElT rts))} {Λr : Nat → Option (RLoop (ElT rts))} {n : Nat} {rof : Option Nat} {Q : Out → Env → AH → List Nat → Prop} (c : AC) : CodeOK P W fr0 Γ rvs rts Λ Λr n false rof Q c :=
 wpE_all hΓ (fun id z ps a b => by
  intro ro st kn kx kR h
  simp [wpE] at h) c
end
end Go.AL
