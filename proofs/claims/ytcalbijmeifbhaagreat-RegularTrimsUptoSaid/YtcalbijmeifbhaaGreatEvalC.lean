/- Ranges over functions, contracts, the structs of the program. -/
import Derived.Test.YtcalbijmeifbhaaGreatEvalB
set_option linter.unusedVariables false
set_option linter.unusedSimpArgs false
namespace Go.AL
open Go.RowKit
set_option linter.unusedVariables false
set_option linter.unusedSimpArgs false
set_option linter.unusedSectionVars false
section
variable [Uni3] {P : Program} {W : World} {fr0 fr1 : F0} {w w' : Wd} {st : St} {σ σ' τ : AH} {ds : List Nat} {aenv : Env}
theorem HR.swap {l : Nat} {o o' : AObj} (h : HR P W fr0 w st σ ds) (hl : fr0.lo = some (l, o)) (ho : o'.isLoop = true) : HR P W { base := fr0.base, lo := some (l, o') } w st (σ.put l o') ds := by
 obtain ⟨h1, h2, h3⟩ := h.lrec l o hl
 have ne : ∀ c x, σ c = some x → x.isLoop = false → c ≠ l := fun c x hc hx => by
  rintro rfl; rw [h1] at hc; cases hc; rw [h3] at hx; cases hx
 refine ⟨fun c x hc => ?_, h.base, fun x o2 hx => ?_, h.hlt, h.hfr, h.inj, h.llt, fun i hi => ?_, h.lfr, h.dist, h.nd, fun b hb => ⟨?_, (h.mrk b hb).2⟩, fun l2 o2 hl2 => ?_⟩
 ·have : c ≠ l := by rintro rfl; rw [h2] at hc; cases hc
  rw [AH.put_ne _ _ this]; exact h.fr c x hc
 ·obtain ⟨ao, k1, k2⟩ := h.obj x o2 hx
  refine ⟨ao, ?_, k2⟩
  rw [AH.put_ne]; exact k1
  refine ne _ _ k1 ?_
  exact mine_isLoop k2.mine
 ·have hlv := h.live i hi
  cases ht : w.tk i with
  | none => rw [ht] at hlv; exact hlv
  | clip => trivial
  | own b e lim =>
    rw [ht] at hlv
    show (σ.put l o') b = _
    rw [AH.put_ne]; exact hlv
    exact ne _ _ hlv rfl
 ·rw [AH.put_ne]; exact (h.mrk b hb).1
  exact ne _ _ (h.mrk b hb).1 rfl
 ·cases hl2
  exact ⟨AH.put_same _ _ _, h2, ho⟩
theorem HR.unlo {l : Nat} {o : AObj} {ds' : List Nat} (h : HR P W fr0 w st σ ds) (hl : fr0.lo = some (l, o)) (hd : ds'.Nodup ∧ ∀ b ∈ ds', σ b = some .marks ∧ fr0.base b = none) : HR P W { base := fr0.base, lo := none } w st (σ.del l) ds' := by
 obtain ⟨h1, h2, h3⟩ := h.lrec l o hl
 have keep : ∀ c x, σ c = some x → x.isLoop = false → (σ.del l) c = some x := fun c x hc hx => by
  have : c ≠ l := by rintro rfl; rw [h1] at hc; cases hc; rw [h3] at hx; cases hx
  simp only [AH.del, this, if_false]; exact hc
 refine ⟨fun c x hc => ?_, h.base, fun x o2 hx => ?_, h.hlt, h.hfr, h.inj, h.llt, fun i hi => ?_, h.lfr, h.dist, hd.1, fun b hb => ⟨keep _ _ (hd.2 b hb).1 rfl, (hd.2 b hb).2⟩, fun l2 o2 hl2 => by cases hl2⟩
 ·have : c ≠ l := by rintro rfl; rw [h2] at hc; cases hc
  simp only [AH.del, this, if_false]; exact h.fr c x hc
 ·obtain ⟨ao, k1, k2⟩ := h.obj x o2 hx
  refine ⟨ao, keep _ _ k1 ?_, k2⟩
  exact mine_isLoop k2.mine
 ·have hlv := h.live i hi
  cases ht : w.tk i with
  | none => rw [ht] at hlv; exact hlv
  | clip => trivial
  | own b e lim => rw [ht] at hlv; exact keep _ _ hlv rfl
theorem HR.upfr {F : AH} (h : HR P W fr0 w st σ ds) (hF : F.le σ) (hle : w.fr.le F) (hn : ∀ c, F c ≠ none → w.fr c = none → (∀ x o, hlk st.hp x = some o → w.ρ x ≠ c) ∧ (∀ i ∈ st.live, (w.tk i).isOn c = false) ∧ (∀ o, fr0.lo ≠ some (c, o))) :
  HR P W fr0 { w with fr := F } st σ ds := by
 have hw : Wd.le st.nx w { w with fr := F } := ⟨fun _ _ => rfl, fun _ _ => rfl, rfl, hle⟩
 refine ⟨hF, AH.le_trans h.base hle, fun x o hx => ?_, h.hlt, fun x o hx => ?_, h.inj, h.llt, h.live, fun i hi c hc => ?_, h.dist, h.nd, h.mrk, fun l o hl => ⟨(h.lrec l o hl).1, ?_, (h.lrec l o hl).2.2⟩⟩
 ·obtain ⟨ao, k1, k2⟩ := h.obj x o hx
  exact ⟨ao, k1, k2.mono hw (Nat.le_refl _)⟩
 ·cases hx2 : F (w.ρ x) with
  | none => exact hx2
  | some y => exact absurd rfl ((hn _ (by rw [hx2]; simp) (h.hfr x o hx)).1 x o hx)
 ·cases hx2 : F c with
  | none => exact hx2
  | some y =>
    have := (hn c (by rw [hx2]; simp) (h.lfr i hi c hc)).2.1 i hi
    rw [hc] at this; cases this
 ·cases hx2 : F l with
  | none => exact hx2
  | some y => exact absurd hl ((hn l (by rw [hx2]; simp) (h.lrec l o hl).2.1).2.2 o)
theorem LDec.env0 {d : LD} {s : ElT d.vts} {live : List Nat} {as : List AV} {aenv' : Env} (h : LDec P W d w st σ aenv s live as) (hv : d.vs = []) : LDec P W d w st σ aenv' s live as :=
 ⟨h.len, fun i t ht => by rw [hv] at ht; simp at ht, h.enc, h.toks, h.vlen, h.obj, h.here⟩
theorem LDec.grow {d : LD} {s : ElT d.vts} {live : List Nat} {as : List AV} (h : LDec P W d w st σ aenv s live as) (hle : ∀ c (o : AObj), o.mine = true → σ c = some o → σ' c = some o) : LDec P W d w st σ' aenv s live as := by
 refine ⟨h.len, h.env, h.enc, h.toks, h.vlen, fun w' nx' vals h1 ht h2 h3 h5 p hp => ?_, h.here⟩
 obtain ⟨k1, k2, ao, k3, k4⟩ := h.obj w' nx' vals h1 ht h2 h3 h5 p hp
 refine ⟨k1, k2, ao, ?_, k4⟩
 exact hle _ _ k4.mine k3
theorem resV_env {st st' : St} (hh : st'.hp = st.hp) : ∀ {rvs : List RV} {vs : List VV}, (∀ r ∈ rvs, match r with | .t n => lk st'.env n = nocnd (lk st.env n) | .cell n _ _ => lk st'.env n = nocnd (lk st.env n)) → resV st rvs = some vs → resV st' rvs = some vs
 | [], vs, _, h => h
 | .t n :: r, vs, he, h => by
   have h1 := he (.t n) (by simp)
   simp only at h1
   simp only [resV] at h ⊢
   split at h
   ·rename_i l hl
    rw [resV_env hh (fun r hr => he r (by simp [hr])) hl, h1]
    have : ∀ v : VV, nocnd (nocnd v) = nocnd v := by intro v; cases v <;> rfl
    simp only [this]; exact h
   ·cases h
 | .cell n g sz :: r, vs, he, h => by
   have h1 := he (.cell n g sz) (by simp)
   simp only at h1
   simp only [resV] at h ⊢
   rw [h1]
   split at h
   ·rename_i hd o hlk1
    rw [hlk1]
    simp only [nocnd, hh]
    split at h
    ·rename_i k2 vs2 hvs
     split at h
     ·rename_i hk2
      rw [if_pos hk2]
      split at h
      ·rename_i l hl
       simp only [resV_env hh (fun r hr => he r (by simp [hr])) hl]
       exact h
      ·cases h
     ·cases h
    ·cases h
   ·cases h
theorem HR.ds0 (h : HR P W fr0 w st σ ds) : HR P W fr0 w st σ [] := ⟨h.fr, h.base, h.obj, h.hlt, h.hfr, h.inj, h.llt, h.live, h.lfr, h.dist, List.nodup_nil, fun b hb => (by cases hb), h.lrec⟩
theorem lk_map (f : Nat → VV) : ∀ (l : List Nat) (n : Nat), n ∈ l → lk (l.map fun t => (t, f t)) n = f n
 | [], n, h => by cases h
 | t :: l, n, h => by
   simp only [List.map_cons, lk]
   split
   ·rename_i ht; rw [ht]
   ·rename_i ht
    rcases List.mem_cons.1 h with h1 | h1
    ·exact absurd h1.symm ht
    ·exact lk_map f l n h1
end
end Go.AL
namespace Go.AL
open Go.RowKit
set_option linter.unusedVariables false
set_option linter.unusedSimpArgs false
set_option linter.unusedSectionVars false
section
variable [Uni3] {P : Program} {W : World} {fr0 : F0} {Γ : Ctx} {rvs : List RV} {rts : List Ty} {Λ : Nat → Option (Loop (ElT rts))} {Λr : Nat → Option (RLoop (ElT rts))} {n : Nat}
theorem toAs_one {w : Wd} {nx : Nat} (t : Ty) (x : El t) : VRelL P W w nx [toVV t x] [encE t x] := by
 simp only [VRelL]; exact ⟨_, _, rfl, toVV_rel (encE_bare _ _), rfl⟩
theorem toAs_rel {w : Wd} {nx : Nat} : ∀ (t : Ty) (x : El t), VRelL P W w nx (toAs t x) (unpk (encA t x))
 | .pair a b, x => by simp only [toAs, encA, unpk, VRelL]; exact ⟨_, _, rfl, toVV_rel (encE_bare _ _), _, _, rfl, toVV_rel (encE_bare _ _), rfl⟩
 | .int k, x => toAs_one (.int k) x
 | .bool, x => toAs_one .bool x
 | .str, x => toAs_one .str x
 | .lst t, x => toAs_one (.lst t) x
 | .nm n, x => toAs_one (.nm n) x
theorem unpk_len (t : Ty) (x : El t) : (unpk (encA t x)).length = nArgs t := by cases t <;> rfl
theorem putVs_rel {w : Wd} {nx : Nat} : ∀ (ps : List Nat) (vs : List VV) (as : List AV) {env : List (Nat × VV)} {aenv : Env}, ER P W w nx env aenv → VRelL P W w nx vs as → ER P W w nx (putVs env ps vs) (aenv.puts ps as)
 | [], vs, as, env, aenv, h, _ => by cases vs <;> cases as <;> exact h
 | p :: ps, [], as, env, aenv, h, k => by simp only [VRelL] at k; subst k; exact h
 | p :: ps, v :: vs, as, env, aenv, h, k => by
   simp only [VRelL] at k
   obtain ⟨a, r, rfl, k1, k2⟩ := k
   exact putVs_rel ps vs r (h.put (d := some p) k1) k2
theorem puts_ne {t : Nat} : ∀ (ps : List Nat) (as : List AV) (aenv : Env), t ∉ ps → (aenv.puts ps as).get t = aenv.get t
 | [], as, aenv, _ => by cases as <;> rfl
 | p :: ps, [], aenv, _ => rfl
 | p :: ps, a :: as, aenv, h => by
   simp only [List.mem_cons, not_or] at h
   exact (puts_ne ps as (aenv.put p a) h.2).trans (Env.get_put_ne _ _ h.1)
def roundEndS (l : Nat) (σ : AH) (R : AV → AH → Prop) (pc : Code) : Prop := isLoopNow σ l ∧ R (.bool false) (setLoop σ l .done (some pc))
theorem CodeOK.rangeF (hΓ : CtxOK P W Γ) (hlo : fr0.lo = none) {Q : Out → Env → AH → List Nat → Prop} (id : Nat) (z : AX) (ps : List Nat) (asg body : AC) : CodeOK P W fr0 Γ rvs rts Λ Λr n true none Q (.block id (.rangeF z ps asg body)) := by
 intro ro st kn kx kR h w aenv σ ds K hs hn hx hr
 simp only [wpE] at h
 cases hΛ : Λr id with
 | none => simp [hΛ] at h
 | some lp => ?_
 cases hz : evX st.env [] z <;> simp only [hΛ, hz] at h <;> first | exact h.elim | skip
 rename_i t xs
 split at h
 case isFalse => exact h.elim
 rename_i ht
 subst ht
 split at h
 case isFalse => exact h.elim
 rename_i hchk
 obtain ⟨hchk, hvs, hpl, hps, hret1⟩ := hchk
 obtain ⟨hd, hnx, hpts, hroS⟩ := LD.chk_spec hchk
 split at h
 case h_2 => exact h.elim
 rename_i c s live hc hdec
 simp only at h
 obtain ⟨hinv, hnil, hstep, hends⟩ := h
 rw [endsP_iff (fun he => by rw [he, allT_iff]; exact fun _ => trivial)] at hends
 obtain ⟨hbrk, hext, hretE⟩ := hends
 simp only [loopP, allT_iff] at hnil hstep hbrk hext hretE
 -- the state read off
 obtain ⟨as, hL⟩ := LD.dec_rel hdec hs.1 hs.2
 have hC := LD.decC_rel hc hs.1
 have hP0 : ∀ p ∈ lp.pts, VRel P W w st.nx p.2 (aenv.get p.1) := fun p hp => by
  have h1 := hs.1 p.1
  rw [sameV_eq _ _ (hpts p hp)] at h1
  exact (SR_plain (hOk_cnd (hd.pts p hp).1)).1 h1
 have rz := evX_rel hs.1 (gs := []) (fun g hg => by cases hg) z
 rw [hz] at rz
 simp only [VRel] at rz
 obtain ⟨fz, hfz, g, first, cap, hzv, hiter⟩ := rz
 let R0 : AH := lp.rest fr0 w σ as
 have hR0σ : R0.le σ := LD.rest_le
 have hwR0 : w.fr.le R0 := hL.fr_le hs.2
 refine AW.block (AW.rangeF hzv fun b l hb hl hlb σ1 hσ1b hσ1 hloop hps1 => ?_)
 obtain ⟨fn, ra, rb, df, dl, hrec0, hca, hcb⟩ := hloop
 let rec_ : LoopState → Option Code → AObj := fun stt pend => .loop stt pend fn n aenv ps ra rb df
 have hσσ1 : σ.le σ1 := fun c' o ho => by
  rw [hσ1 c' (by rintro rfl; rw [hb] at ho; cases ho) (by rintro rfl; rw [hl] at ho; cases ho)]; exact ho
 have hR0b : R0 b = none := AH.none_le hR0σ hb
 have hR0l : R0 l = none := AH.none_le hR0σ hl
 have hbase : fr0.base.le R0 := AH.le_trans hs.2.base hwR0
 have hbn : fr0.base b = none := AH.none_le hbase hR0b
 let DD : ElT lp.vts → AH → Prop := fun s' τ => ∃ (st' : St) (w' : Wd) (as' : List AV) (l' : List Nat), LDec P W lp.toLD w' st' τ aenv s' l' as' ∧ (∀ h, h < lp.nx → w'.ρ h = w.ρ h ∧ w'.tk h = w.tk h) ∧ (∀ i, lp.own.getD i false = true → Live τ (avTok (as'.getD i .any))) ∧
    (∀ i, lp.own.getD i false = true → ∀ c', (avTok (as'.getD i .any)).isOn c' = true → R0 c' = none)
 let J : Nat → AH → AH → Prop := fun k I τ => I.le τ ∧ τ l = some (rec_ .ready none) ∧ ∃ (s' : ElT lp.vts) (w2 : Wd), R0.le w2.fr ∧ w2.fr b = some .marks ∧ I.le w2.fr ∧ (∀ h, h < lp.nx → w2.ρ h = w.ρ h ∧ w2.tk h = w.tk h) ∧
  lp.inv c (xs.drop k) s' ∧ lp.out c (xs.drop k) s' = lp.out c xs s ∧ ER P W w2 (lp.body c s').nx (lp.body c s').env aenv ∧ HR P W { base := fr0.base, lo := some (l, rec_ .ready none) } w2 (lp.body c s') τ [] ∧ DD s' τ
 let E : AH → AH → Prop := fun I τ => I.le τ ∧ τ b = some .marks ∧ R0.le τ ∧ ∃ pc, τ l = some (rec_ .done (some pc)) ∧
  ((∃ (i : Nat) (s' : ElT lp.vts), pc = (if i = RET then .ret else .exit i) ∧ DD s' τ ∧ ((i = id ∧ i ≠ RET ∧ lp.out c xs s = .brk s') ∨ (lp.exts.contains i = true ∧ i ≠ id ∧ lp.out c xs s = .ext i s'))) ∨
   (∃ (r : ElT rts) (st' : St) (w' : Wd), pc = .ret ∧ lp.rets = true ∧ lp.out c xs s = .ret r ∧ resT rvs rts st' = some r ∧ R0.le w'.fr ∧ w'.fr b = some .marks ∧ ER P W w' st'.nx st'.env aenv ∧ HR P W { base := fr0.base, lo := some (l, rec_ .done (some .ret)) } w' st' τ []))
 have hend := hiter J E (.fn (.yield l) [] []) σ1 ⟨_, _, _, rfl⟩ (fun k I τ h => h.1) ?_ (fun k I τ I' hJ hI => ?_) (fun I τ τ' hE hle => ?_) (fun I τ I' hE hI => ⟨AH.le_trans hI hE.1, hE.2⟩) ?_ ?_
 ·-- behind
  refine hend.mono fun v τ hτ => ?_
  have finish : ∀ (s' : ElT lp.vts) (o : AObj), τ l = some o → o.isLoop = true → τ b = some .marks → R0.le τ → DD s' τ →
    ∃ w3, StR P W fr0 w3 (lp.after st live s') aenv (τ.del l) (b :: ds) ∧ Later ro st (lp.after st live s') w w3 aenv aenv := by
   intro s' o ho hol hmb hR0τ ⟨st', w', as', l', hL', hρ, hlv, hon⟩
   have ne : ∀ c' x, τ c' = some x → x.isLoop = false → (τ.del l) c' = some x := fun c' x hc' hx' => by
    have : c' ≠ l := by rintro rfl; rw [ho] at hc'; cases hc'; rw [hol] at hx'; cases hx'
    simp only [AH.del, this, if_false]; exact hc'
   obtain ⟨w3, k1, k2, k3⟩ := LD.after_gen (σ' := τ.del l) (ds' := b :: ds) hd hs.2 hs.1 hL (hL'.grow fun c' o' hm' hc' => ne c' _ hc' (mine_isLoop hm')) (fun h hh => (hρ h hh).1) (fun _ h hh => (hρ h hh).2) (fun c' x hc' => by
     have : c' ≠ l := by rintro rfl; rw [show lp.rest fr0 w σ as c' = none from hR0l] at hc'; cases hc'
     simp only [AH.del, this, if_false]; exact hR0τ c' x hc') hnx (fun _ _ => rfl) (fun i hi => by
     have := hlv i hi
     cases ht : avTok (as'.getD i .any) with
     | none => rw [ht] at this; exact this
     | clip => trivial
     | own b' e lim => rw [ht] at this; exact ne _ _ this rfl) hon ⟨List.nodup_cons.2 ⟨fun hm => (by rw [(hs.2.mrk b hm).1] at hb; cases hb), hs.2.nd⟩, fun b' hb' => by
       rcases List.mem_cons.1 hb' with rfl | hb'
       ·exact ⟨ne _ _ hmb rfl, hbn⟩
       ·have hm := hs.2.mrk b' hb'
        refine ⟨ne _ _ (hR0τ _ _ (LD.rest_eq hm.1 (fun h hh => ?_) (fun i hi hl' hon' => ?_) (fun o' ho' => by rw [hlo] at ho'; cases ho'))) rfl, hm.2⟩
        ·rintro rfl
         obtain ⟨vs, hv⟩ := hL.here h hh
         obtain ⟨ao2, h2, h2'⟩ := hs.2.obj _ _ hv
         rw [hm.1] at h2; cases h2; cases h2'.mine
        ·rcases hL.toks.src i hi hl' with h1 | ⟨id', h1, h3, h2⟩
         ·rw [h1] at hon'; cases hon'
         ·rw [h2] at hon'
          have hlv2 := hs.2.live id' h1
          cases hy : w.tk id' with
          | none => rw [hy] at hon'; cases hon'
          | clip => rw [hy] at hon'; cases hon'
          | own b2 e lim =>
            rw [hy] at hlv2 hon'
            simp only [Tok.isOn, beq_iff_eq] at hon'
            subst hon'
            rw [show σ b2 = some (.row e lim) from hlv2] at hm; cases hm.1⟩ (fun l' o' hl' => by rw [hlo] at hl'; cases hl')
   exact ⟨w3, ⟨k2, k3⟩, k1, by simp only [LD.after]; omega, fun _ _ => rfl⟩
  rcases hτ with ⟨_, hrec, s', w2, h1, h2, h3, h4, h5, h6, h7, h8, h9⟩ | ⟨_, hmb, hR0τ, pc, hrec, hor⟩
  ·-- all were taken
   simp only [afterRange, hrec, rec_]
   refine ⟨by simp, ?_⟩
   rw [List.length_map, List.drop_length] at h5 h6
   have hout : lp.out c xs s = .brk s' := by rw [← h6]; exact hnil c s' h5
   obtain ⟨w3, k1, k2⟩ := finish s' _ hrec rfl (h8.fr _ _ h2) (AH.le_trans h1 h8.fr) h9
   exact AW.blk (hn _ _ _ _ _ (hbrk s' hout) k1 k2)
  ·rcases hor with ⟨i, s', rfl, hDD, hout⟩ | ⟨r, st', w', rfl, hrt, hout, hres, h1, h2, h3, h4⟩
   ·obtain ⟨w3, k1, k2⟩ := finish s' _ hrec rfl hmb hR0τ hDD
    by_cases hir : i = RET
    ·rw [if_pos hir] at hrec
     simp only [afterRange, hrec, rec_]
     refine ⟨by simp, ?_⟩
     rcases hout with ⟨_, hnr, _⟩ | ⟨hmem, hne, hout⟩
     ·exact absurd hir hnr
     ·have hk : kx i (lp.after st live s') := extAll_iff.1 (hext s') i (by simpa using hmem) hout
      have hsk := (hx i _ _ _ _ _ hk k1 k2).skip (x := .blk id) (by simp [exitA, Ne.symm hne])
      subst hir
      exact hsk.awR
    ·rw [if_neg hir] at hrec
     simp only [afterRange, hrec, rec_]
     refine ⟨by simp, ?_⟩
     rcases hout with ⟨rfl, hnr, hout⟩ | ⟨hmem, hne, hout⟩
     ·exact AW.exit (by simp [exitA]) (hn _ _ _ _ _ (hbrk s' hout) k1 k2)
     ·have hk : kx i (lp.after st live s') := extAll_iff.1 (hext s') i (by simpa using hmem) hout
      exact ((hx i _ _ _ _ _ hk k1 k2).skip (x := .blk id) (by simp [exitA, Ne.symm hne])).aw hir
   ·simp only [afterRange, hrec, rec_]
    refine ⟨by simp, ?_⟩
    have hmk : ∀ b' ∈ b :: ds, τ b' = some .marks ∧ fr0.base b' = none := fun b' hb' => by
     rcases List.mem_cons.1 hb' with rfl | hb'
     ·exact ⟨hmb, hbn⟩
     ·have hm := hs.2.mrk b' hb'
      refine ⟨hR0τ _ _ (LD.rest_eq hm.1 (fun h hh => ?_) (fun i hi hl' hon' => ?_) (fun o' ho' => by rw [hlo] at ho'; cases ho')), hm.2⟩
      ·rintro rfl
       obtain ⟨vs, hv⟩ := hL.here h hh
       obtain ⟨ao2, h2, h2'⟩ := hs.2.obj _ _ hv
       rw [hm.1] at h2; cases h2; cases h2'.mine
      ·rcases hL.toks.src i hi hl' with h1 | ⟨id', h1, h3, h2⟩
       ·rw [h1] at hon'; cases hon'
       ·rw [h2] at hon'
        have hlv2 := hs.2.live id' h1
        cases hy : w.tk id' with
        | none => rw [hy] at hon'; cases hon'
        | clip => rw [hy] at hon'; cases hon'
        | own b2 e lim =>
          rw [hy] at hlv2 hon'
          simp only [Tok.isOn, beq_iff_eq] at hon'
          subst hon'
          rw [show σ b2 = some (.row e lim) from hlv2] at hm; cases hm.1
    have hfin := h4.unlo rfl (ds' := b :: ds) ⟨List.nodup_cons.2 ⟨fun hm => (by rw [(hs.2.mrk b hm).1] at hb; cases hb), hs.2.nd⟩, hmk⟩
    have e0 : ({ base := fr0.base, lo := none } : F0) = fr0 := by cases fr0; simp only at hlo; subst hlo; rfl
    rw [e0] at hfin
    exact AW.ret (hr r st' w' aenv (τ.del l) (b :: ds) (hretE hrt r hout) hres ⟨h3, hfin⟩ (AH.le_trans hwR0 h1) fun _ _ => rfl)
 ·-- more heap, more to be left
  intro k I τ I' τ' ⟨_, hrec, s', w2, h1, h2, h3, h4, h5, h6, h7, h8, h9⟩ hτ hI hI' hnew
  let F : AH := fun c' => match I' c' with
   | some o => some o
   | none => w2.fr c'
  have h8' := h8.grow hτ
  have hFτ : F.le τ' := fun c' o hc' => by
   simp only [F] at hc'
   split at hc'
   ·rename_i o' ho'; cases hc'; exact hI' _ _ ho'
   ·exact h8'.fr _ _ hc'
  have hle : w2.fr.le F := fun c' o hc' => by
   simp only [F]
   split
   ·rename_i o' ho'
    have e1 := hI' _ _ ho'; have e2 := h8'.fr _ _ hc'
    rw [e1] at e2; exact e2
   ·exact hc'
  have hup := h8'.upfr hFτ hle (fun c' hc' hw' => by
   have hI'c : I' c' ≠ none := by
    intro hz; simp only [F, hz] at hc'; exact hc' hw'
   have hIc : I c' = none := AH.none_le h3 hw'
   have hτc := hnew c' hI'c hIc
   refine ⟨fun x o hx => ?_, fun i hi => ?_, fun o ho => ?_⟩
   ·rintro rfl
    obtain ⟨ao, e1, _⟩ := h8.obj x o hx
    rw [e1] at hτc; cases hτc
   ·have hlv := h8.live i hi
    cases ht : w2.tk i with
    | none => rfl
    | clip => rfl
    | own b2 e lim =>
      rw [ht] at hlv
      cases hx : (Tok.own b2 e lim).isOn c' with
      | false => rfl
      | true =>
        simp only [Tok.isOn, beq_iff_eq] at hx
        subst hx
        rw [show τ b2 = some (.row e lim) from hlv] at hτc; cases hτc
   ·rw [(h8.lrec c' o ho).1] at hτc; cases hτc)
  refine ⟨hI', hτ _ _ hrec, s', { w2 with fr := F }, AH.le_trans h1 hle, hle _ _ h2, fun c' o hc' => by simp only [F, hc'], h4, h5, h6, h7.mono ⟨fun _ _ => rfl, fun _ _ => rfl, rfl, hle⟩ (Nat.le_refl _), hup, ?_⟩
  obtain ⟨st', w', as', l', e1, e2, e3, e4⟩ := h9
  exact ⟨st', w', as', l', e1.grow fun c' o' _ hc' => hτ _ _ hc', e2, fun i hi => (e3 i hi).mono hτ, e4⟩
 ·obtain ⟨h0, hrec, s', w2, h1, h2, h3, h4⟩ := hJ
  exact ⟨AH.le_trans hI h0, hrec, s', w2, h1, h2, AH.le_trans hI h3, h4⟩
 ·obtain ⟨h0, h1, h2, pc, h3, h4⟩ := hE
  refine ⟨AH.le_trans h0 hle, hle _ _ h1, AH.le_trans h2 hle, pc, hle _ _ h3, ?_⟩
  rcases h4 with ⟨i, s', rfl, ⟨st', w', as', l', e1, e2, e3, e4⟩, h5⟩ | ⟨r, st', w', rfl, k1, k2, k3, k4, k5, k6, k7⟩
  ·exact .inl ⟨i, s', rfl, ⟨st', w', as', l', e1.grow fun c' o' _ hc' => hle _ _ hc', e2, fun i hi => (e3 i hi).mono hle, e4⟩, h5⟩
  ·exact .inr ⟨r, st', w', rfl, k1, k2, k3, k4, k5, k6, k7.grow hle⟩
 ·-- at the start
  have hs1 := hs.2.grow hσσ1
  have hHR : HR P W { base := fr0.base, lo := some (l, rec_ .ready none) } w st σ1 [] := ⟨hs1.fr, hs1.base, hs1.obj, hs1.hlt, hs1.hfr, hs1.inj, hs1.llt, hs1.live, hs1.lfr, hs1.dist, List.nodup_nil, fun b hb => (by cases hb), fun l2 o2 hl2 => by
   cases hl2; exact ⟨hrec0, AH.none_le hs.2.fr hl, rfl⟩⟩
  have hL1 : LDec P W lp.toLD w st σ1 aenv s live as := hL.grow fun c' o' _ hc' => hσσ1 _ _ hc'
  let F : AH := R0.put b .marks
  have hF : F.le (lp.rest { base := fr0.base, lo := some (l, rec_ .ready none) } w σ1 as) := fun c' o hc' => by
   by_cases hcb : c' = b
   ·subst hcb
    simp only [F, AH.put_same] at hc'; cases hc'
    refine LD.rest_eq hσ1b (fun h hh => ?_) (fun i hi hl' hon' => ?_) (fun o' ho' => ?_)
    ·rintro rfl
     obtain ⟨vs, hv⟩ := hL.here h hh
     obtain ⟨ao2, h2, h2'⟩ := hs.2.obj _ _ hv
     rw [hb] at h2; cases h2
    ·rcases hL.toks.src i hi hl' with h1 | ⟨id', h1, h3, h2⟩
     ·rw [h1] at hon'; cases hon'
     ·rw [h2] at hon'
      have hlv2 := hs.2.live id' h1
      cases hy : w.tk id' with
      | none => rw [hy] at hon'; cases hon'
      | clip => rw [hy] at hon'; cases hon'
      | own b2 e lim =>
        rw [hy] at hlv2 hon'
        simp only [Tok.isOn, beq_iff_eq] at hon'
        subst hon'
        rw [show σ b2 = some (.row e lim) from hlv2] at hb; cases hb
    ·cases ho'; exact hlb rfl
   ·simp only [F, AH.put_ne _ _ hcb] at hc'
    have hc2 : (lp.rest fr0 w σ as) c' = some o := hc'
    have hne : c' ≠ l := by rintro rfl; rw [show lp.rest fr0 w σ as c' = none from hR0l] at hc2; cases hc2
    simp only [LD.rest] at hc2
    split at hc2
    ·cases hc2
    ·rename_i hn'
     exact LD.rest_eq (hσσ1 _ _ hc2) (fun h hh he => hn' (.inl ⟨h, hh, he⟩)) (fun i hi hl' hon' => hn' (.inr (.inl ⟨i, hi, hl', hon'⟩))) (fun o' ho' => by cases ho'; exact hne rfl)
  have hR0F : R0.le F := fun c' o hc' => by
   have : c' ≠ b := by rintro rfl; rw [hR0b] at hc'; cases hc'
   simp only [F, AH.put_ne _ _ this]; exact hc'
  have hP : ∀ p ∈ lp.pts, VRel P W w (max st.nx lp.nx) p.2 (aenv.get p.1) := fun p hp => (hP0 p hp).mono (Wd.le_refl _ _) (by omega)
  obtain ⟨w2, k1, k2, k3, k4, k5, k6⟩ := LD.canon hd hHR hL1 hC hP hF (AH.le_trans hbase hR0F)
  refine ⟨AH.le_trans hfz (AH.le_trans hs.2.fr hσσ1), hrec0, s, w2, by rw [k2]; exact hR0F, by rw [k2]; exact AH.put_same _ _ _, by rw [k2]; exact AH.le_trans hfz (AH.le_trans hwR0 hR0F), fun h hh => ⟨by rw [k1], k6 h hh⟩, hinv, rfl, k4, k5, st, w, as, live, hL1, fun _ _ => ⟨rfl, rfl⟩, fun i hi => ?_, fun i hi c' hc' => ?_⟩
  ·have hlt : i < as.length := by
    rw [hL.len, ← hd.own]
    rcases Nat.lt_or_ge i lp.own.length with h1 | h1
    ·exact h1
    ·simp [List.getD_eq_getElem?_getD, List.getElem?_eq_none h1] at hi
   rcases hL.toks.src i hi hlt with h9 | ⟨id', h9, _, h10⟩
   ·rw [h9]; trivial
   ·rw [h10]; exact hs1.live id' h9
  ·have hlt : i < as.length := by
    rw [hL.len, ← hd.own]
    rcases Nat.lt_or_ge i lp.own.length with h1 | h1
    ·exact h1
    ·simp [List.getD_eq_getElem?_getD, List.getElem?_eq_none h1] at hi
   simp only [R0, LD.rest]
   rw [if_pos (.inr (.inl ⟨i, hi, hlt, hc'⟩))]
 ·-- a round
  intro k x I τ hx ⟨hIτ, hrec, s', w2, h1, h2, h3, h4, h5, h6, h7, h8, h9⟩
  rw [List.getElem?_map] at hx
  cases hy : xs[k]? with
  | none => rw [hy] at hx; cases hx
  | some y =>
  rw [hy] at hx
  simp only [Option.map_some, Option.some.injEq] at hx
  subst hx
  have hk : k < xs.length := by
   rcases Nat.lt_or_ge k xs.length with h | h
   ·exact h
   ·rw [List.getElem?_eq_none h] at hy; cases hy
  have hdrop : xs.drop k = y :: xs.drop (k + 1) := by
   rw [List.drop_eq_getElem_cons hk]
   rw [List.getElem?_eq_getElem hk] at hy; cases hy; rfl
  rw [hdrop] at h5 h6
  show AYield P W l (unpk (encA lp.t y)) τ _
  refine ayield_of (ps := ps) (asg := asg) (body := body) ⟨fn, ra, rb, df, dl, hrec, hca, hcb⟩ hps1 ((unpk_len _ _).trans hpl.symm) ?_
  have hpro : ∀ t ∈ lp.ro, t ∉ ps := fun t ht hm => by
   have := List.all_eq_true.1 hps t hm
   simp [ht] at this
  have hyv : VRelL P W w2 (lp.body c s').nx (toAs lp.t y) (unpk (encA lp.t y)) := toAs_rel _ _
  have hst1 : StR P W { base := fr0.base, lo := some (l, rec_ .ready none) } w2 { (lp.body c s') with env := putVs (lp.body c s').env ps (toAs lp.t y) } (aenv.puts ps (unpk (encA lp.t y))) τ [] := ⟨putVs_rel _ _ _ h7 hyv, h8.withEnv _⟩
  have hro1 : ∀ t ∈ lp.ro, (aenv.puts ps (unpk (encA lp.t y))).get t = aenv.get t := fun t ht => puts_ne _ _ _ (hpro t ht)
  refine wpE_round hΓ asg lp.ro _ _ _ _ (hstep c y (xs.drop (k + 1)) s' h5) w2 _ τ [] [.bgn, .c body] hst1 (fun st2 w3 aenv3 τ3 ds3 hk2 hS hLt => ?_) (fun i st2 w3 aenv3 τ3 ds3 hk2 => hk2.elim) (fun r st2 w3 aenv3 τ3 ds3 hk2 => hk2.elim)
  have hl3 := (hS.2.lrec l _ rfl).1
  refine AW.bgn hl3 ?_
  have e3 : AL.setLoop τ3 l .busy none = τ3.put l (rec_ .busy none) := by simp [AL.setLoop, hl3, rec_]
  rw [e3]
  have hS2 := hS.2.swap (o' := rec_ .busy none) rfl rfl
  have hnx2 : lp.nx ≤ st2.nx := by have := hLt.nx; simp only [LD.body] at this; omega
  -- what holds at the round's end
  have common : ∀ (st' : St) (w' : Wd) (aenv' : Env) (τ' : AH) (ds' : List Nat), StR P W { base := fr0.base, lo := some (l, rec_ .busy none) } w' st' aenv' τ' ds' → Later lp.ro st2 st' w3 w' aenv3 aenv' →
    τ' l = some (rec_ .busy none) ∧ R0.le w'.fr ∧ w'.fr b = some .marks ∧ I.le w'.fr ∧ (∀ h, h < lp.nx → w'.ρ h = w.ρ h ∧ w'.tk h = w.tk h) ∧ (∀ t ∈ lp.ro, aenv'.get t = aenv.get t) ∧ w'.fr l = none ∧
    (∀ s'' l', lp.dec st' = some (s'', l') → (∃ as', LDec P W lp.toLD w' st' τ' aenv s'' l' as') ∧ ∀ o, DD s'' (τ'.put l o)) := by
   intro st' w' aenv' τ' ds' hS' hLt'
   obtain ⟨g1, g2, g3⟩ := hS'.2.lrec l _ rfl
   have gR : R0.le w'.fr := AH.le_trans h1 (AH.le_trans hLt.le.fr hLt'.le.fr)
   have gρ : ∀ h, h < lp.nx → w'.ρ h = w.ρ h ∧ w'.tk h = w.tk h := fun h hh => ⟨(hLt'.le.ρ h (by omega)).trans ((hLt.le.ρ h (by simp only [LD.body]; omega)).trans (h4 h hh).1), (hLt'.le.tk h (by omega)).trans ((hLt.le.tk h (by simp only [LD.body]; omega)).trans (h4 h hh).2)⟩
   refine ⟨g1, gR, hLt'.le.fr _ _ (hLt.le.fr _ _ h2), AH.le_trans h3 (AH.le_trans hLt.le.fr hLt'.le.fr), gρ, fun t ht => (hLt'.ro t ht).trans ((hLt.ro t ht).trans (hro1 t ht)), g2, fun s'' l' hd' => ?_⟩
   obtain ⟨as', hL'⟩ := LD.dec_rel hd' hS'.1 hS'.2
   have hL0 := hL'.env0 (aenv' := aenv) hvs
   have ne : ∀ c' x, τ' c' = some x → x.isLoop = false → c' ≠ l := fun c' x hc' hx' => by
    rintro rfl; rw [g1] at hc'; cases hc'; cases hx'
   have hlt : ∀ i, lp.own.getD i false = true → i < as'.length := fun i hi => by
    rw [hL'.len, ← hd.own]
    rcases Nat.lt_or_ge i lp.own.length with h1 | h1
    ·exact h1
    ·simp [List.getD_eq_getElem?_getD, List.getElem?_eq_none h1] at hi
   refine ⟨⟨as', hL0⟩, fun o => ⟨st', w', as', l', hL0.grow fun c' o' hm' hc' => by rw [AH.put_ne _ _ (ne _ _ hc' (mine_isLoop hm'))]; exact hc', gρ, fun i hi => ?_, fun i hi c' hc' => ?_⟩⟩
   ·rcases hL'.toks.src i hi (hlt i hi) with h9 | ⟨id', h9, _, h10⟩
    ·rw [h9]; trivial
    ·rw [h10]
     have hlv := hS'.2.live id' h9
     cases hy2 : w'.tk id' with
     | none => rw [hy2] at hlv; exact hlv
     | clip => trivial
     | own b2 e lim =>
       rw [hy2] at hlv
       show (τ'.put l o) b2 = _
       rw [AH.put_ne _ _ (ne _ _ hlv rfl)]; exact hlv
   ·rcases hL'.toks.src i hi (hlt i hi) with h9 | ⟨id', h9, _, h10⟩
    ·rw [h9] at hc'; cases hc'
    ·rw [h10] at hc'; exact AH.none_le gR (hS'.2.lfr id' h9 c' hc')
  have leput : ∀ (w' : Wd) (st' : St) (τ' : AH) (ds' : List Nat) (G : AH) (o : AObj), HR P W { base := fr0.base, lo := some (l, rec_ .busy none) } w' st' τ' ds' → G.le w'.fr → G.le (τ'.put l o) := fun w' st' τ' ds' G o hH hG c' x hc' => by
   have h10 := hG _ _ hc'
   have : c' ≠ l := by rintro rfl; rw [(hH.lrec _ _ rfl).2.1] at h10; cases h10
   rw [AH.put_ne _ _ this]; exact hH.fr _ _ h10
  refine wpE_round hΓ body lp.ro st2 _ _ _ hk2 w3 aenv3 _ ds3 [] ⟨hS.1, hS2⟩ (fun st' w' aenv' τ' ds' hk' hS' hLt' => ?_) (fun i st' w' aenv' τ' ds' hk' hS' hLt' => ?_) (fun r' st' w' aenv' τ' ds' hk' hres hS' hfr' hro' => ?_)
  ·-- it goes on
   obtain ⟨g1, g2, g3, g4, g5, g6, g7, g8⟩ := common st' w' aenv' τ' ds' hS' hLt'
   split at hk'
   ·rename_i s'' l' hd'
    obtain ⟨hi', ho'⟩ := hk'
    obtain ⟨⟨as', hL'⟩, hDD⟩ := g8 s'' l' hd'
    refine AW.fin (show isLoopNow τ' l ∧ _ from ⟨⟨_, _, _, _, _, _, _, _, _, g1⟩, ?_⟩)
    have e4 : AL.setLoop τ' l .ready none = τ'.put l (rec_ .ready none) := by simp [AL.setLoop, g1, rec_]
    rw [e4]
    have hP' : ∀ p ∈ lp.pts, VRel P W w' (max st'.nx lp.nx) p.2 (aenv.get p.1) := fun p hp => hOk_rel (n := lp.nx) (fun h hh => (g5 h hh).1) (by omega) _ (fun _ h hh => (g5 h hh).2) (hd.pts p hp).1 (hP0 p hp)
    obtain ⟨w4, k1, k2, k3, k4, k5, k6⟩ := LD.canon hd hS'.2 hL' hC hP' (hL'.fr_le hS'.2) hS'.2.base
    refine ⟨leput w' st' τ' ds' I _ hS'.2 g4, .inl ⟨rfl, leput w' st' τ' ds' I _ hS'.2 g4, AH.put_same _ _ _, s'', w4, by rw [k2]; exact g2, by rw [k2]; exact g3, by rw [k2]; exact g4, fun h hh => by rw [k1, k6 h hh]; exact g5 h hh, hi', ho'.trans h6, k4, (k5.swap (o' := rec_ .ready none) rfl rfl).ds0, hDD _⟩⟩
   ·exact hk'.elim
  ·-- it leaves
   obtain ⟨g1, g2, g3, g4, g5, g6, g7, g8⟩ := common st' w' aenv' τ' ds' hS' hLt'
   split at hk'
   ·rename_i s'' l' hd'
    obtain ⟨_, hDD⟩ := g8 s'' l' hd'
    have hout : (i = id ∧ i ≠ RET ∧ lp.out c xs s = .brk s'') ∨ (lp.exts.contains i = true ∧ i ≠ id ∧ lp.out c xs s = .ext i s'') := by
     split at hk'
     ·rename_i hid
      split at hk'
      ·exact hk'.elim
      ·rename_i hir; exact .inl ⟨hid, hir, h6 ▸ hk'⟩
     ·rename_i hid
      split at hk'
      ·rename_i hm; exact .inr ⟨hm, hid, h6 ▸ hk'⟩
      ·exact hk'.elim
    have hbl : b ≠ l := hlb.symm
    have fin : ∀ pc, pc = (if i = RET then Code.ret else .exit i) → roundEndS l τ' (fun v τ => I.le τ ∧ ((v = .bool true ∧ J (k + 1) I τ) ∨ (v = .bool false ∧ E I τ))) pc := by
     intro pc hpc
     refine ⟨⟨_, _, _, _, _, _, _, _, _, g1⟩, ?_⟩
     have e4 : AL.setLoop τ' l .done (some pc) = τ'.put l (rec_ .done (some pc)) := by simp [AL.setLoop, g1, rec_]
     rw [e4]
     refine ⟨leput w' st' τ' ds' I _ hS'.2 g4, .inr ⟨rfl, leput w' st' τ' ds' I _ hS'.2 g4, ?_, leput w' st' τ' ds' R0 _ hS'.2 g2, pc, AH.put_same _ _ _, .inl ⟨i, s'', hpc, hDD _, hout⟩⟩⟩
     rw [AH.put_ne _ _ hbl]; exact hS'.2.fr _ _ g3
    by_cases hir : i = RET
    ·refine .inr ⟨hir, fin .ret (by rw [if_pos hir])⟩
    ·refine .inl ⟨hir, .inr ⟨rfl, fin (.exit i) (by rw [if_neg hir])⟩⟩
   ·exact hk'.elim
  ·-- it returns
   split at hk'
   ·rename_i hrt
    obtain ⟨g1, g2, g3⟩ := hS'.2.lrec l _ rfl
    have gR : R0.le w'.fr := AH.le_trans h1 (AH.le_trans hLt.le.fr hfr')
    have gI : I.le w'.fr := AH.le_trans h3 (AH.le_trans hLt.le.fr hfr')
    have gb : w'.fr b = some .marks := hfr' _ _ (hLt.le.fr _ _ h2)
    refine show isLoopNow τ' l ∧ _ from ⟨⟨_, _, _, _, _, _, _, _, _, g1⟩, ?_⟩
    have e4 : AL.setLoop τ' l .done (some .ret) = τ'.put l (rec_ .done (some .ret)) := by simp [AL.setLoop, g1, rec_]
    rw [e4]
    refine ⟨leput w' st' τ' ds' I _ hS'.2 gI, .inr ⟨rfl, leput w' st' τ' ds' I _ hS'.2 gI, ?_, leput w' st' τ' ds' R0 _ hS'.2 gR, .ret, AH.put_same _ _ _, .inr ⟨r', { st' with env := lp.ro.map fun t => (t, nocnd (lk st'.env t)) }, w', rfl, hrt, h6 ▸ hk', ?_, gR, gb, ?_, ((hS'.2.swap (o' := rec_ .done (some .ret)) rfl rfl).withEnv _).ds0⟩⟩⟩
    ·have : b ≠ l := hlb.symm
     rw [AH.put_ne _ _ this]; exact hS'.2.fr _ _ gb
    ·unfold resT at hres ⊢
     split at hres
     ·rename_i vs hvs'
      have hall := List.all_eq_true.1 (hret1 hrt)
      rw [resV_env (st := st') (st' := { st' with env := lp.ro.map fun t => (t, nocnd (lk st'.env t)) }) rfl (fun r hr => ?_) hvs']
      ·exact hres
      ·have := hall r hr
       cases r with
       | t m => exact lk_map _ _ _ (by simpa using this)
       | cell m _ _ => exact lk_map _ _ _ (by simpa using this)
     ·cases hres
    ·refine ER_of fun q hq => ?_
     obtain ⟨t, ht, rfl⟩ := List.mem_map.1 hq
     simp only
     have hget : aenv'.get t = aenv.get t := (hro' t ht).trans ((hLt.ro t ht).trans (hro1 t ht))
     have h10 : VRel P W w' st'.nx (nocnd (lk st'.env t)) (aenv'.get t) := by
      have := hS'.1 t
      generalize lk st'.env t = v at this
      cases v <;> first | (simp only [nocnd, VRel]; done) | exact this
     have h11 : (nocnd (lk st'.env t)).isCnd = false := by
      generalize lk st'.env t = v
      cases v <;> rfl
     rw [hget] at h10
     exact (SR_plain h11).2 h10
   ·exact hk'.elim
end
end Go.AL
namespace Go.AL
open Go.RowKit
set_option linter.unusedVariables false
set_option linter.unusedSimpArgs false
set_option linter.unusedSectionVars false
section
variable [Uni3] {P : Program} {W : World} {fr0 : F0} {Γ : Ctx} {rvs : List RV} {rts : List Ty} {Λ : Nat → Option (Loop (ElT rts))} {Λr : Nat → Option (RLoop (ElT rts))} {n : Nat}
theorem encTs_length' : ∀ (ts : List Ty) (x : ElT ts), (AL.encTs ts x).length = ts.length
 | [], x => rfl
 | [t], x => rfl
 | t :: u :: ts, x => by simp [AL.encTs, encTs_length' (u :: ts) x.2]
theorem acall_of_wpF (hΓ : CtxOK P W Γ) {f : Nat} {ps : List Ty} {a : ElT ps} {R : ElT rts → Prop} (h : wpF P Γ f ps rts Λ Λr a R) {as : List AV} (has : as.map AV.bare = AL.encTs ps a) (σ : AH) :
  ACall P W f as σ fun v σ' => ∃ r, R r ∧ Sim v (encR rts r) ∧ σ.le σ' := by
 unfold wpF at h
 split at h
 ·rename_i n rvs ac hcode
  obtain ⟨fn, c, h1, h2, h3, h4, h5, rfl⟩ := codeOf_spec hcode
  split at h
  ·rename_i hps
   have hlen : as.length = ps.length := by rw [← List.length_map (f := AV.bare), has, encTs_length']
   refine acall_of h1 h2 h3 h4 h5 (by omega) ?_
   let w : Wd := { ρ := fun x => x, tk := fun _ => .none, ext := fun _ _ => False, fr := σ }
   have hs : StR P W { base := σ, lo := none } w (initSt ps a) (argEnv 0 as) σ [] := by
    constructor
    ·refine ER_of fun p hp => ?_
     simp only [initSt] at hp ⊢
     refine VRelL_zip _ _ (.inr trivial) (toVs_cnd _ _) (fun i t v ht hv => ?_) p hp
     have hi : i < ps.length := by
      rcases Nat.lt_or_ge i ps.length with h6 | h6
      ·exact h6
      ·rw [List.getElem?_eq_none (by simpa using h6)] at ht; cases ht
     rw [List.getElem?_range hi] at ht
     cases ht
     obtain ⟨x, h7, h8⟩ := (toVs_rel (P := P) (W := W) (w := w) (nx := 0) _ _ _ has).get i hv
     rw [argEnv_get]
     simp only [Nat.zero_le, if_true, Nat.sub_zero, List.getD_eq_getElem?_getD, h7, Option.getD_some]
     exact h8
    ·exact ⟨AH.le_refl _, AH.le_refl _, fun x o hx => by simp [initSt, hlk] at hx, fun x o hx => by simp [initSt, hlk] at hx, fun x o hx => by simp [initSt, hlk] at hx, fun x y o o' hx => by simp [initSt, hlk] at hx,
      fun i hi => by simp [initSt] at hi, fun i hi => by simp [initSt] at hi, fun i hi => by simp [initSt] at hi, fun i hi => by simp [initSt] at hi, List.nodup_nil, fun b hb => (by cases hb), fun l o hl => (by cases hl)⟩
   have hall := wpE_all (fr0 := { base := σ, lo := none }) (rof := none) (Q := atEnd rvs fun v σ' => ∃ r, R r ∧ Sim v (encR rts r) ∧ σ.le σ') (n := fn.ntmps) (rvs := rvs) (Λ := Λ) (Λr := Λr) (top := true) hΓ (fun id z ps a b => CodeOK.rangeF hΓ rfl id z ps a b) ac
   refine hall [] (initSt ps a) _ _ _ h w (argEnv 0 as) σ [] [] hs (fun st' w' aenv' σ' ds' h6 h7 h8 => ?_) (fun i st' w' aenv' σ' ds' h6 => h6.elim) (fun r st' w' aenv' σ' ds' h6 h7 h8 h9 _ => ?_)
   ·split at h6
    ·rename_i r hr
     exact AW.fin (show ds'.Nodup ∧ _ from atEnd_of (R := fun v σ' => ∃ r, R r ∧ Sim v (encR rts r) ∧ σ.le σ') h7 hr fun v τ h9 h10 => ⟨r, h6, h9, h10⟩)
    ·exact h6.elim
   ·exact show ds'.Nodup ∧ _ from atEnd_of (R := fun v σ' => ∃ r, R r ∧ Sim v (encR rts r) ∧ σ.le σ') h8 h7 fun v τ h10 h11 => ⟨r, h6, h10, h11⟩
  ·exact h.elim
 ·exact h.elim
theorem funOK {f : Nat} {ps : List Ty} {pre : Option (ElT ps → Prop)} {spec : ElT ps → ElT rts} (hΓ : CtxOK P W Γ) {Λ : ElT ps → Nat → Option (Loop (ElT rts))} {Λr : ElT ps → Nat → Option (RLoop (ElT rts))}
  (h : ∀ a, preC pre a → wpF P Γ f ps rts (Λ a) (Λr a) a fun r => spec a = r) : CtrOK P W f (pureCtr ps rts pre spec) := by
 refine pureCtr_ok fun a ha as has σ => (acall_of_wpF hΓ (h a ha) has σ).mono fun v σ' ⟨r, h1, h2, h3⟩ => ⟨h1 ▸ h2, h3⟩
theorem funOK_rec {f : Nat} {ps : List Ty} {pre : Option (ElT ps → Prop)} {spec : ElT ps → ElT rts} (m : ElT ps → Nat) {l : List (Nat × Ctr)} (hl : ∀ p ∈ l, CtrOK P W p.1 p.2) {Λ : ElT ps → Nat → Option (Loop (ElT rts))} {Λr : ElT ps → Nat → Option (RLoop (ElT rts))}
  (h : ∀ a, preC pre a → wpF P (lookC ((f, pureCtr ps rts (some fun b => preC pre b ∧ m b < m a) spec) :: l)) f ps rts (Λ a) (Λr a) a fun r => spec a = r) : CtrOK P W f (pureCtr ps rts pre spec) := by
 refine pureCtr_ok ?_
 have key : ∀ k a, m a = k → preC pre a → ∀ as, as.map AV.bare = AL.encTs ps a → ∀ σ, ACall P W f as σ fun v σ' => Sim v (encR rts (spec a)) ∧ σ.le σ' := by
  intro k
  induction k using Nat.strongRecOn with
  | _ k ih =>
    intro a hk ha as has σ
    have hΓ : CtxOK P W (lookC ((f, pureCtr ps rts (some fun b => preC pre b ∧ m b < m a) spec) :: l)) := lookC_ok fun p hp => by
     rcases List.mem_cons.1 hp with rfl | hp
     ·exact pureCtr_ok (pre := some fun b => preC pre b ∧ m b < m a) fun b hb bs hbs τ => ih (m b) (hk ▸ hb.2) b rfl hb.1 bs hbs τ
     ·exact hl p hp
    exact (acall_of_wpF hΓ (h a ha) has σ).mono fun v σ' ⟨r, h1, h2, h3⟩ => ⟨h1 ▸ h2, h3⟩
 exact fun a ha as has σ => key _ a rfl ha as has σ
end
end Go.AL
namespace Go.AL
open Go.RowKit
set_option linter.unusedVariables false
set_option linter.unusedSimpArgs false
set_option linter.unusedSectionVars false
section
variable [Uni3]
abbrev UNR : Nat := 40
def wpI (Γ : Ctx) (rvs : List RV) (fz : List Nat) : AC → St → (St → Prop) → (Nat → St → Prop) → (List VV → St → Prop) → Prop
 | .skip, st, kn, kx, kR => kn st
 | .seq a b, st, kn, kx, kR => wpI Γ rvs fz a st (fun st' => wpI Γ rvs fz b st' kn kx kR) kx kR
 | .reg ops [], st, kn, kx, kR => wpOE Γ [] ops st kn
 | .dreg hd tl [], st, kn, kx, kR => wpHE Γ [] hd st fun st1 => newsE (newsOf hd) st1 fun st2 => wpOE Γ [] tl st2 kn
 | .cond z a b, st, kn, kx, kR => match evX st.env [] z with
   | .bool e => ifB e (wpI Γ rvs fz a st kn kx kR) (wpI Γ rvs fz b st kn kx kR)
   | _ => False
 | .block id a, st, kn, kx, kR => wpI Γ rvs fz a st kn (fun i st' => if i = id then (if i = RET then False else kn st') else kx i st') kR
 | .exit i, st, kn, kx, kR => if i = RET then False else kx i st
 | .ret, st, kn, kx, kR => match resV (frz [] fz st) rvs with
   | some vs => kR vs (frz [] fz st)
   | none => False
 | .loop x, st, kn, kx, kR => Nat.rec (motive := fun _ => St → Prop) (fun _ => False) (fun _ ih st' => wpI Γ rvs fz x st' ih kx kR) UNR st
 | _, _, _, _, _ => False
def inlRes : List VV → VV
 | [] => .tup []
 | [v] => v
 | u :: v :: l => .tup (u :: v :: l)
def inlKF (Γ : Ctx) (n : Nat) (rvs : List RV) (fz : List Nat) (ac : AC) : Ctr where
 pv vs := none
 run vs st K := if vs.length ≤ n then wpI Γ rvs fz ac { st with env := (List.range vs.length).zip (vs.map nocnd) } (fun st' => match resV (frz [] fz st') rvs with
  | some l => K (inlRes l) { (frz [] fz st') with env := st.env }
  | none => False) (fun _ _ => False) (fun l st' => K (inlRes l) { st' with env := st.env }) else False
def inlCF (P : Program) (Γ : Ctx) (fz : List Nat) (f : Nat) : Ctr :=
 match codeOf P f with
 | some (n, rvs, ac) => inlKF Γ n rvs fz ac
 | none => { pv := fun _ => none, run := fun _ _ _ => False }
def deadC : Ctr := { pv := fun _ => none, run := fun _ _ _ => False }
variable {P : Program} {W : World} {fr0 : F0} {Γ : Ctx} {rvs : List RV} {fz : List Nat} {n : Nat} {ds : List Nat} {Q : Out → Env → AH → List Nat → Prop}
theorem wpI_sound (hΓ : CtxOK P W Γ) : ∀ (c : AC) (st : St) (kn : St → Prop) (kx : Nat → St → Prop) (kR : List VV → St → Prop), wpI Γ rvs fz c st kn kx kR → ∀ (w : Wd) (aenv : Env) (σ : AH) (K : List AItem), StR P W fr0 w st aenv σ ds →
  (∀ st' w' aenv' σ', kn st' → StR P W fr0 w' st' aenv' σ' ds → Later [] st st' w w' aenv aenv' → AW P W none n Q K aenv' σ' []) →
  (∀ i st' w' aenv' σ', kx i st' → StR P W fr0 w' st' aenv' σ' ds → Later [] st st' w w' aenv aenv' → ExitOK P W none n Q i K aenv' σ' []) →
  (∀ l st' w' aenv' σ', kR l st' → resV st' rvs = some l → StR P W fr0 w' st' aenv' σ' ds → Later [] st st' w w' aenv aenv' → Q .ret aenv' σ' []) →
  AW P W none n Q (.c c :: K) aenv σ []
 | .skip, st, kn, kx, kR, h, w, aenv, σ, K, hs, hn, hx, hr => by
   simp only [wpI] at h
   exact AW.skip (hn st w aenv σ h hs (.refl _ _ _ _))
 | .seq a b, st, kn, kx, kR, h, w, aenv, σ, K, hs, hn, hx, hr => by
   simp only [wpI] at h
   refine AW.seq (wpI_sound hΓ a st _ kx kR h w aenv σ (.c b :: K) hs (fun st' w' aenv' σ' h1 h2 h3 => ?_) (fun i st' w' aenv' σ' h1 h2 h3 => (hx i st' w' aenv' σ' h1 h2 h3).skip rfl) hr)
   exact wpI_sound hΓ b st' kn kx kR h1 w' aenv' σ' K h2 (fun st'' w'' aenv'' σ'' k1 k2 k3 => hn _ _ _ _ k1 k2 (h3.trans k3)) (fun i st'' w'' aenv'' σ'' k1 k2 k3 => hx _ _ _ _ _ k1 k2 (h3.trans k3))
    fun l st'' w'' aenv'' σ'' k1 k2 k3 k4 => hr l st'' w'' aenv'' σ'' k1 k2 k3 (h3.trans k4)
 | .reg ops dead, st, kn, kx, kR, h, w, aenv, σ, K, hs, hn, hx, hr => by
   cases dead with
   | cons _ _ => simp [wpI] at h
   | nil =>
     simp only [wpI] at h
     refine AW.reg (wpOE_sound hΓ ops st w aenv σ h hs.1 hs.2 fun st' w' aenv' σ' h1 h2 h3 h4 h5 h6 => ?_)
     rw [Env.drop_nil]
     exact hn st' w' aenv' σ' h1 ⟨h2, h3⟩ ⟨h4, h5, h6⟩
 | .dreg hd tl dead, st, kn, kx, kR, h, w, aenv, σ, K, hs, hn, hx, hr => by
   cases dead with
   | cons _ _ => simp [wpI] at h
   | nil =>
     simp only [wpI] at h
     refine AW.dreg (wpHE_sound hΓ hd st aenv h hs.1 hs.2 fun env1 aenv1 h1 h2 h3 => fun τ hτ => ?_)
     have hr1 : HR P W fr0 w { st with env := env1 } τ ds := (hs.2.withEnv env1).grow hτ
     refine newsE_sound (ro := []) _ [] { st with env := env1 } w aenv1 h1 (fun p hp => rfl) h2 hr1 hs.2.fr (fun x o hx => ?_) fun st2 w2 aenv2 k1 k2 k3 k4 k5 k6 => ?_
     ·obtain ⟨ao, h4, _⟩ := hs.2.obj x o hx
      exact .inl (by rw [h4]; simp)
     ·refine wpOE_sound hΓ tl st2 w2 aenv2 τ k1 k2 k3 fun st' w' aenv' σ' l1 l2 l3 l4 l5 l6 => ?_
      rw [Env.drop_nil]
      exact hn st' w' aenv' σ' l1 ⟨l2, l3⟩ ⟨Wd.le_trans k4 l4 k5, Nat.le_trans k5 l5, fun t ht => by cases ht⟩
 | .cond z a b, st, kn, kx, kR, h, w, aenv, σ, K, hs, hn, hx, hr => by
   simp only [wpI] at h
   have rz := evX_rel hs.1 (gs := []) (fun g hg => by cases hg) z
   split at h
   ·rename_i e he
    rw [he] at rz
    simp only [VRel] at rz
    refine AW.cond rz ?_
    cases e with
    | true => exact wpI_sound hΓ a st kn kx kR h w aenv σ K hs hn hx hr
    | false => exact wpI_sound hΓ b st kn kx kR h w aenv σ K hs hn hx hr
   ·exact h.elim
 | .block id a, st, kn, kx, kR, h, w, aenv, σ, K, hs, hn, hx, hr => by
   simp only [wpI] at h
   refine AW.block (wpI_sound hΓ a st kn _ kR h w aenv σ (.blk id :: K) hs (fun st' w' aenv' σ' h1 h2 h3 => AW.blk (hn _ _ _ _ h1 h2 h3)) (fun i st' w' aenv' σ' h1 h2 h3 => ?_) hr)
   split at h1
   ·rename_i hi
    split at h1
    ·exact h1.elim
    ·rename_i hr
     exact .inl ⟨hr, .inl ⟨K, by simp [exitA, hi], hn _ _ _ _ h1 h2 h3⟩⟩
   ·rename_i hi
    exact (hx _ _ _ _ _ h1 h2 h3).skip (by simp [exitA, Ne.symm hi])
 | .exit i, st, kn, kx, kR, h, w, aenv, σ, K, hs, hn, hx, hr => by
   simp only [wpI] at h
   split at h
   ·exact h.elim
   ·rename_i hi
    exact (hx i st w aenv σ h hs (.refl _ _ _ _)).aw hi
 | .ret, st, kn, kx, kR, h, w, aenv, σ, K, hs, hn, hx, hr => by
   simp only [wpI] at h
   obtain ⟨aenvF, σF, hsF, hnxF, hroF, hawF⟩ := frz_sound [] fz hs.1 hs.2
   refine hawF _ _ _ _ ?_
   split at h
   ·rename_i l hl
    exact AW.ret (hr l _ w aenvF σF h hl hsF ⟨Wd.le_refl _ _, by omega, fun t ht => by cases ht⟩)
   ·exact h.elim
 | .loop x, st, kn, kx, kR, h, w, aenv, σ, K, hs, hn, hx, hr => by
   simp only [wpI] at h
   refine AW.loop ?_
   have key : ∀ (k : Nat) (st' : St) (w' : Wd) (aenv' : Env) (σ' : AH), (Nat.rec (motive := fun _ => St → Prop) (fun _ => False) (fun _ ih st' => wpI Γ rvs fz x st' ih kx kR) k st') → StR P W fr0 w' st' aenv' σ' ds → Later [] st st' w w' aenv aenv' →
     AW P W none n Q (.c x :: .lp x :: K) aenv' σ' [] := by
    intro k
    induction k with
    | zero => intro st' w' aenv' σ' h1; exact h1.elim
    | succ k ih =>
      intro st' w' aenv' σ' h1 h2 h3
      exact wpI_sound hΓ x st' _ kx kR h1 w' aenv' σ' (.lp x :: K) h2 (fun st'' w'' aenv'' σ'' k1 k2 k3 => AW.lp (ih st'' w'' aenv'' σ'' k1 k2 (h3.trans k3)))
       (fun i st'' w'' aenv'' σ'' k1 k2 k3 => (hx i st'' w'' aenv'' σ'' k1 k2 (h3.trans k3)).skip rfl) fun l st'' w'' aenv'' σ'' k1 k2 k3 k4 => hr l st'' w'' aenv'' σ'' k1 k2 k3 (h3.trans k4)
   exact key UNR st w aenv σ h hs (.refl _ _ _ _)
 | .rangeF z ps a b, st, kn, kx, kR, h, w, aenv, σ, K, hs, hn, hx, hr => by simp [wpI] at h
theorem inlRes_rel {w : Wd} {nx : Nat} {l : List VV} {vs : List AV} (h : VRelL P W w nx l vs) : VRel P W w nx (inlRes l) (one1 vs) := by
 match l, h with
 | [], h => simp only [VRelL] at h; subst h; simp only [inlRes, one1, VRel]; exact ⟨[], rfl, by simp [VRelL]⟩
 | [v], h =>
   simp only [VRelL] at h
   obtain ⟨a, r, rfl, h1, rfl⟩ := h
   exact h1
 | u :: v :: l, h =>
   have h' := h
   simp only [VRelL] at h
   obtain ⟨a, r, rfl, h1, b, r', rfl, h2, h3⟩ := h
   simp only [inlRes, one1, VRel]
   exact ⟨_, rfl, h'⟩
theorem inlCF_ok {f : Nat} (hΓ : CtxOK P W Γ) : CtrOK P W f (inlCF P Γ fz f) := by
 unfold inlCF
 split
 ·rename_i n rvs ac hcode
  obtain ⟨fn, c, h1, h2, h3, h4, h5, rfl⟩ := codeOf_spec hcode
  refine ⟨fun vs pv h => (by cases h), fun vs st K h fr0 w σ ds as hH hr => ?_⟩
  simp only [inlKF] at h
  split at h
  ·rename_i hlen
   have hl : vs.length = as.length := hr.length.symm
   refine acall_of h1 h2 h3 h4 h5 (by omega) ?_
   have hs : StR P W fr0 w { st with env := (List.range vs.length).zip (vs.map nocnd) } (argEnv 0 as) σ ds := by
    refine ⟨ER_of fun p hp => ?_, hH.withEnv _⟩
    refine VRelL_zip _ _ (.inr trivial) (fun v hv => ?_) (fun i t v ht hv => ?_) p hp
    ·obtain ⟨u, _, rfl⟩ := List.mem_map.1 hv
     cases u <;> rfl
    ·have hi : i < vs.length := by
      rcases Nat.lt_or_ge i vs.length with h6 | h6
      ·exact h6
      ·rw [List.getElem?_eq_none (by simpa using h6)] at ht; cases ht
     rw [List.getElem?_range hi] at ht
     cases ht
     rw [List.getElem?_map] at hv
     obtain ⟨u, hu, rfl⟩ := Option.map_eq_some_iff.1 hv
     obtain ⟨x, h7, h8⟩ := hr.get i hu
     rw [argEnv_get]
     simp only [Nat.zero_le, if_true, Nat.sub_zero, List.getD_eq_getElem?_getD, h7, Option.getD_some]
     cases u <;> first | (simp only [nocnd, VRel]; done) | exact h8
   have hend : ∀ l st' w' aenv' σ', (K (inlRes l) { st' with env := st.env }) → resV st' rvs = some l → StR P W fr0 w' st' aenv' σ' ds → Later [] { st with env := (List.range vs.length).zip (vs.map nocnd) } st' w w' (argEnv 0 as) aenv' →
     atEnd rvs (fun a σ' => ∃ v st' w', K v st' ∧ st'.env = st.env ∧ HR P W fr0 w' st' σ' ds ∧ VRel P W w' st'.nx v a ∧ Wd.le st.nx w w' ∧ st.nx ≤ st'.nx) .ret aenv' σ' [] := fun l st' w' aenv' σ' k1 k2 k3 k4 => by
    refine show [].Nodup ∧ (∀ b ∈ [], _) ∧ _ from ⟨List.nodup_nil, fun b hb => (by cases hb), ?_⟩
    exact resV_rel k3.1 k3.2.obj k2 fun us hu => ⟨_, _, w', k1, rfl, k3.2.withEnv _, inlRes_rel hu, k4.le, k4.nx⟩
   refine wpI_sound hΓ ac _ _ _ _ h w (argEnv 0 as) σ [] hs (fun st' w' aenv' σ' k1 k2 k3 => ?_) (fun i st' w' aenv' σ' k => k.elim) (fun l st' w' aenv' σ' k1 k2 k3 k4 => hend l st' w' aenv' σ' k1 k2 k3 k4)
   obtain ⟨aenvF, σF, hsF, hnxF, hroF, hawF⟩ := frz_sound [] fz k2.1 k2.2
   refine hawF _ _ _ _ ?_
   split at k1
   ·rename_i l hl'
    exact AW.fin (hend l _ w' aenvF σF k1 hl' hsF (k3.trans ⟨Wd.le_refl _ _, by omega, fun t ht => by cases ht⟩))
   ·exact k1.elim
  ·exact h.elim
 ·exact ⟨fun vs pv h => (by cases h), fun vs st K h => h.elim⟩
theorem deadC_ok {f : Nat} : CtrOK P W f deadC := ⟨fun _ _ h => (by cases h), fun _ _ _ h => h.elim⟩
end
end Go.AL
namespace Go.AL
open Go.RowKit
set_option linter.unusedVariables false
set_option linter.unusedSimpArgs false
set_option linter.unusedSectionVars false
section
variable [Uni3]
def mkArgs : List (Option Nat) → List VV → List VV
 | [], _ => []
 | some f :: r, vs => .fn f [] [] :: mkArgs r vs
 | none :: r, v :: vs => v :: mkArgs r vs
 | none :: r, [] => .any :: mkArgs r []
def isFn (f : Nat) : VV → Bool
 | .fn g [] [] => g == f
 | _ => false
theorem isFn_eq {f : Nat} {v : VV} (h : isFn f v = true) : v = .fn f [] [] := by
 unfold isFn at h
 split at h
 ·rw [beq_iff_eq.1 h]
 ·cases h
def unArgs : List (Option Nat) → List VV → Option (List VV)
 | [], [] => some []
 | some f :: r, v :: vs => if isFn f v = true then unArgs r vs else none
 | none :: r, v :: vs => match unArgs r vs with
   | some l => some (v :: l)
   | none => none
 | _, _ => none
def keepA : List (Option Nat) → List AV → List AV
 | some _ :: r, _ :: as => keepA r as
 | none :: r, a :: as => a :: keepA r as
 | _, _ => []
variable {P : Program} {W : World} {w w' : Wd} {nx nx' : Nat}
theorem unArgs_rel : ∀ {fx : List (Option Nat)} {vs us : List VV} {as : List AV}, unArgs fx vs = some us → VRelL P W w nx vs as → VRelL P W w nx us (keepA fx as) ∧ as.length = fx.length ∧
  ∀ (w' : Wd) (nx' : Nat) (us' : List VV), VRelL P W w' nx' us' (keepA fx as) → VRelL P W w' nx' (mkArgs fx us') as
 | [], [], us, as, h, hr => by
   cases h
   simp only [VRelL] at hr; subst hr
   exact ⟨by simp [keepA, VRelL], rfl, fun w' nx' us' _ => by simp [mkArgs, VRelL]⟩
 | [], _ :: _, us, as, h, hr => by simp [unArgs] at h
 | some f :: r, [], us, as, h, hr => by simp [unArgs] at h
 | some f :: r, v :: vs, us, as, h, hr => by
   simp only [unArgs] at h
   split at h
   ·rename_i hg
    have := isFn_eq hg
    subst this
    simp only [VRelL, VRel] at hr
    obtain ⟨a, s, rfl, ⟨xs, ys, rfl, rfl, rfl⟩, h2⟩ := hr
    obtain ⟨k1, k2, k3⟩ := unArgs_rel h h2
    refine ⟨k1, by simp [k2], fun w' nx' us' hu => ?_⟩
    simp only [mkArgs, VRelL, VRel]
    exact ⟨_, _, rfl, ⟨[], [], rfl, rfl, rfl⟩, k3 w' nx' us' hu⟩
   ·cases h
 | none :: r, [], us, as, h, hr => by simp [unArgs] at h
 | none :: r, v :: vs, us, as, h, hr => by
   simp only [unArgs] at h
   split at h
   ·rename_i l hl
    cases h
    simp only [VRelL] at hr
    obtain ⟨a, s, rfl, h1, h2⟩ := hr
    obtain ⟨k1, k2, k3⟩ := unArgs_rel hl h2
    refine ⟨by simp only [keepA, VRelL]; exact ⟨_, _, rfl, h1, k1⟩, by simp [k2], fun w' nx' us' hu => ?_⟩
    simp only [keepA] at hu
    cases us' with
    | nil => simp [VRelL] at hu
    | cons u us' =>
      simp only [VRelL] at hu
      obtain ⟨b, t, e, g1, g2⟩ := hu
      cases e
      simp only [mkArgs, VRelL]
      exact ⟨_, _, rfl, g1, k3 w' nx' us' g2⟩
   ·cases h
theorem mkArgs_cnd : ∀ (fx : List (Option Nat)) (vs : List VV), (∀ v ∈ vs, v.isCnd = false) → ∀ v ∈ mkArgs fx vs, v.isCnd = false
 | [], vs, h, v, hv => by simp [mkArgs] at hv
 | some f :: r, vs, h, v, hv => by
   simp only [mkArgs, List.mem_cons] at hv
   rcases hv with rfl | hv
   ·rfl
   ·exact mkArgs_cnd r vs h v hv
 | none :: r, [], h, v, hv => by
   simp only [mkArgs, List.mem_cons] at hv
   rcases hv with rfl | hv
   ·rfl
   ·exact mkArgs_cnd r [] (fun _ h => by cases h) v hv
 | none :: r, u :: vs, h, v, hv => by
   simp only [mkArgs, List.mem_cons] at hv
   rcases hv with rfl | hv
   ·exact h _ (by simp)
   ·exact mkArgs_cnd r vs (fun x hx => h x (by simp [hx])) v hv
def initX (fx : List (Option Nat)) (ps : List Ty) (a : ElT ps) : St := { env := (List.range fx.length).zip (mkArgs fx (toVs ps a)), hp := [], live := [], nx := 0 }
def wpFX (P : Program) (Γ : Ctx) (f : Nat) (fx : List (Option Nat)) (ps rs : List Ty) (Λ : Nat → Option (Loop (ElT rs))) (Λr : Nat → Option (RLoop (ElT rs))) (a : ElT ps) (R : ElT rs → Prop) : Prop :=
 match codeOf P f with
 | some (n, rvs, ac) => if fx.length ≤ n then wpE Γ rvs rs Λ Λr true [] ac (initX fx ps a) (fun st' => match resT rvs rs st' with
   | some r => R r
   | none => False) (fun _ _ => False) R else False
 | none => False
def pureX (fx : List (Option Nat)) (ps rs : List Ty) (pre : Option (ElT ps → Prop)) (spec : ElT ps → ElT rs) : Ctr where
 pv vs := match unArgs fx vs with
  | some us => (pureCtr ps rs pre spec).pv us
  | none => none
 run vs st K := match unArgs fx vs with
  | some us => (pureCtr ps rs pre spec).run us st K
  | none => False
variable {Γ : Ctx} {rts : List Ty} {Λ : Nat → Option (Loop (ElT rts))} {Λr : Nat → Option (RLoop (ElT rts))}
theorem acall_of_wpFX (hΓ : CtxOK P W Γ) {f : Nat} {fx : List (Option Nat)} {ps : List Ty} {a : ElT ps} {R : ElT rts → Prop} (h : wpFX P Γ f fx ps rts Λ Λr a R) {as : List AV} (hlen : as.length = fx.length)
  (has : ∀ w : Wd, VRelL P W w 0 (mkArgs fx (toVs ps a)) as) (σ : AH) : ACall P W f as σ fun v σ' => ∃ r, R r ∧ Sim v (encR rts r) ∧ σ.le σ' := by
 unfold wpFX at h
 split at h
 ·rename_i n rvs ac hcode
  obtain ⟨fn, c, h1, h2, h3, h4, h5, rfl⟩ := codeOf_spec hcode
  split at h
  ·rename_i hps
   refine acall_of h1 h2 h3 h4 h5 (by omega) ?_
   let w : Wd := { ρ := fun x => x, tk := fun _ => .none, ext := fun _ _ => False, fr := σ }
   have hs : StR P W { base := σ, lo := none } w (initX fx ps a) (argEnv 0 as) σ [] := by
    constructor
    ·refine ER_of fun p hp => ?_
     simp only [initX] at hp ⊢
     refine VRelL_zip _ _ (.inr trivial) (mkArgs_cnd _ _ (toVs_cnd _ _)) (fun i t v ht hv => ?_) p hp
     have hi : i < fx.length := by
      rcases Nat.lt_or_ge i fx.length with h6 | h6
      ·exact h6
      ·rw [List.getElem?_eq_none (by simpa using h6)] at ht; cases ht
     rw [List.getElem?_range hi] at ht
     cases ht
     obtain ⟨x, h7, h8⟩ := (has w).get i hv
     rw [argEnv_get]
     simp only [Nat.zero_le, if_true, Nat.sub_zero, List.getD_eq_getElem?_getD, h7, Option.getD_some]
     exact h8
    ·exact ⟨AH.le_refl _, AH.le_refl _, fun x o hx => by simp [initX, hlk] at hx, fun x o hx => by simp [initX, hlk] at hx, fun x o hx => by simp [initX, hlk] at hx, fun x y o o' hx => by simp [initX, hlk] at hx,
      fun i hi => by simp [initX] at hi, fun i hi => by simp [initX] at hi, fun i hi => by simp [initX] at hi, fun i hi => by simp [initX] at hi, List.nodup_nil, fun b hb => (by cases hb), fun l o hl => (by cases hl)⟩
   have hall := wpE_all (fr0 := { base := σ, lo := none }) (rof := none) (Q := atEnd rvs fun v σ' => ∃ r, R r ∧ Sim v (encR rts r) ∧ σ.le σ') (n := fn.ntmps) (rvs := rvs) (Λ := Λ) (Λr := Λr) (top := true) hΓ (fun id z ps a b => CodeOK.rangeF hΓ rfl id z ps a b) ac
   refine hall [] (initX fx ps a) _ _ _ h w (argEnv 0 as) σ [] [] hs (fun st' w' aenv' σ' ds' h6 h7 h8 => ?_) (fun i st' w' aenv' σ' ds' h6 => h6.elim) (fun r st' w' aenv' σ' ds' h6 h7 h8 h9 _ => ?_)
   ·split at h6
    ·rename_i r hr
     exact AW.fin (show ds'.Nodup ∧ _ from atEnd_of (R := fun v σ' => ∃ r, R r ∧ Sim v (encR rts r) ∧ σ.le σ') h7 hr fun v τ h9 h10 => ⟨r, h6, h9, h10⟩)
    ·exact h6.elim
   ·exact show ds'.Nodup ∧ _ from atEnd_of (R := fun v σ' => ∃ r, R r ∧ Sim v (encR rts r) ∧ σ.le σ') h8 h7 fun v τ h10 h11 => ⟨r, h6, h10, h11⟩
  ·exact h.elim
 ·exact h.elim
theorem funOKX {f : Nat} {fx : List (Option Nat)} {ps : List Ty} {pre : Option (ElT ps → Prop)} {spec : ElT ps → ElT rts} (hΓ : CtxOK P W Γ) {Λ : ElT ps → Nat → Option (Loop (ElT rts))} {Λr : ElT ps → Nat → Option (RLoop (ElT rts))}
  (h : ∀ a, preC pre a → wpFX P Γ f fx ps rts (Λ a) (Λr a) a fun r => spec a = r) : CtrOK P W f (pureX fx ps rts pre spec) := by
 have key : ∀ (vs us : List VV) (a : ElT ps) (w : Wd) (nx : Nat) (as : List AV), unArgs fx vs = some us → asTs ps us = some a → preC pre a → VRelL P W w nx vs as → ∀ σ, ACall P W f as σ fun v σ' => Sim v (encR rts (spec a)) ∧ σ.le σ' := by
  intro vs us a w nx as hu ha hp hr σ
  obtain ⟨k1, k2, k3⟩ := unArgs_rel hu hr
  have he := asTs_rel _ _ _ _ ha k1
  exact (acall_of_wpFX hΓ (h a hp) k2 (fun w0 => k3 w0 0 _ (toVs_rel _ _ _ he)) σ).mono fun v σ' ⟨r, h1, h2, h3⟩ => ⟨h1 ▸ h2, h3⟩
 constructor
 ·intro vs pv hpv hc w nx as hr
  simp only [pureX] at hpv
  split at hpv
  ·rename_i us hu
   simp only [pureCtr] at hpv
   split at hpv
   ·rename_i a ha
    cases hpv
    have hp : preC pre a := by cases pre <;> first | trivial | exact hc
    exact ⟨trivial, encR rts (spec a), fun v hv => resVV_rel hv, fun σ _ => key vs us a w nx as hu ha hp hr σ⟩
   ·cases hpv
  ·cases hpv
 ·intro vs st K hrun fr0 w σ ds as hH hr
  simp only [pureX] at hrun
  split at hrun
  ·rename_i us hu
   simp only [pureCtr] at hrun
   split at hrun
   ·rename_i a ha
    rw [addC_iff, allT_iff] at hrun
    have hp : preC pre a := by cases pre <;> first | trivial | exact hrun.1
    refine (key vs us a w _ as hu ha hp hr σ).mono fun v σ' ⟨h1, h2⟩ => ?_
    exact ⟨resVV rts (spec a), st, w, hrun.2 _ rfl, rfl, hH.grow h2, resVV_rel h1, Wd.le_refl _ _, Nat.le_refl _⟩
   ·exact hrun.elim
  ·exact hrun.elim
end
end Go.AL
namespace Go.AL
open Go.RowKit
set_option linter.unusedVariables false
set_option linter.unusedSimpArgs false
set_option linter.unusedSectionVars false
section
variable [Uni3]
def endsR : AC → Bool
 | .seq _ b => endsR b
 | .ret => true
 | _ => false
def cutR : AC → AC
 | .seq a b => .seq a (cutR b)
 | _ => .skip
def mapAt (k v : Ty) (rvs : List RV) (st : St) (R : List (El k × El v) → Prop) : Prop :=
 match resV st rvs with
 | some [.mp h] => match hlk st.hp h with
   | some (.ob .map [c]) => match asF 8 (.lst (.pair k v)) c with
     | some l => R l
     | none => False
   | _ => False
 | _ => False
def wpM (P : Program) (Γ : Ctx) (f : Nat) (ps : List Ty) (k v : Ty) (Λ : Nat → Option (Loop (ElT []))) (a : ElT ps) (R : List (El k × El v) → Prop) : Prop :=
 match codeOf P f with
 | some (n, rvs, ac) => if ps.length ≤ n ∧ endsR ac = true then wpE Γ [] [] Λ (fun _ => none) true [] (cutR ac) (initSt ps a) (fun st' => mapAt k v rvs st' R) (fun _ _ => False) (fun _ => False) else False
 | none => False
variable {P : Program} {W : World} {fr0 : F0} {Γ : Ctx} {n : Nat}
end
end Go.AL
namespace Go.AL
open Go.RowKit
set_option linter.unusedVariables false
set_option linter.unusedSimpArgs false
set_option linter.unusedSectionVars false
section
variable [Uni3]
variable {P : Program} {W : World} {Γ : Ctx} {n : Nat} {rvs : List RV} {ac : AC} {f : Nat}
end
end Go.AL
namespace Go.AL
open Go.RowKit Classical
set_option linter.unusedVariables false
set_option linter.unusedSimpArgs false
set_option linter.unusedSectionVars false
section
variable [Uni3]
/-! ### Handles renamed -/
mutual
def rnV (f : Nat → Nat) : VV → VV
 | .loc h o => .loc (f h) o
 | .fn g a b => .fn g (rnL f a) (rnL f b)
 | .mp h => .mp (f h)
 | v => v
def rnL (f : Nat → Nat) : List VV → List VV
 | [] => []
 | x :: xs => rnV f x :: rnL f xs
end
mutual
def findH : VV → VV → List (Nat × Nat) → List (Nat × Nat)
 | .loc h _, .loc h' _, acc => (h, h') :: acc
 | .mp h, .mp h', acc => (h, h') :: acc
 | .fn _ a b, .fn _ a' b', acc => findHL b b' (findHL a a' acc)
 | _, _, acc => acc
def findHL : List VV → List VV → List (Nat × Nat) → List (Nat × Nat)
 | x :: xs, y :: ys, acc => findHL xs ys (findH x y acc)
 | _, _, acc => acc
end
def nlk : List (Nat × Nat) → Nat → Nat
 | [], _ => 0
 | (a, b) :: l, i => if a = i then b else nlk l i
def LD.rn (d : LD) (f : Nat → Nat) (nx : Nat) : LD :=
 { cs := [], cts := [], pts := [], vs := [], os := d.os.map fun p => (f p.1, p.2.1, p.2.2.map fun o => o.map (rnV f)), vts := d.vts, own := d.own, ro := [], nx := nx }
def memMapL (vs : List VV) : List (Nat × VV) → List (Nat × Nat) → List (Nat × Nat)
 | [], acc => acc
 | (t, p) :: r, acc => memMapL vs r (findH p (vs.getD t .any) acc)
def memMap (d : LD) (vs : List VV) : List (Nat × Nat) := memMapL vs d.pts []
def memChk (d : LD) (vs : List VV) (nx : Nat) (f : Nat → Nat) : Bool :=
 decide (vs.length = d.cs.length + d.pts.length) && d.ok && d.pts.all (fun p => sameV (vs.getD p.1 .any) (rnV f p.2)) && decide (d.nx ≤ nx) && (List.range d.nx).all (fun i => (d.os.map (·.1)).contains i) &&
 d.os.all (fun p => d.os.all fun q => p.1 == q.1 || f p.1 != f q.1) && d.os.all (fun p => p.2.2.all fun o => match o with | some c => hOk d.nx c | none => true) && decide (d.vs = []) && !d.hasSl && !(d.rn f nx).hasSl
def memAfter (d : LD) (f : Nat → Nat) (st : St) (live : List Nat) (s' : ElT d.vts) : St :=
 { env := st.env, hp := ((d.rn f st.nx).after st live s').hp, live := ((d.rn f st.nx).after st live s').live, nx := ((d.rn f st.nx).after st live s').nx }
def memK (d : LD) (rs : List Ty) (pre : Option (ElT d.cts → ElT d.vts → Prop)) (spec : ElT d.cts → ElT d.vts → ElT rs × ElT d.vts) (f : Nat → Nat) (st : St) (K : VV → St → Prop) : Option (ElT d.cts) → Option (ElT d.vts × List Nat) → Prop
 | some c, some (s, live) => addC (match pre with | some p => some (p c s) | none => none) (allT rs fun r => allT d.vts fun s' => spec c s = (r, s') → K (resVV rs r) (memAfter d f st live s'))
 | _, _ => False
def memCtr (d : LD) (rs : List Ty) (pre : Option (ElT d.cts → ElT d.vts → Prop)) (spec : ElT d.cts → ElT d.vts → ElT rs × ElT d.vts) : Ctr where
 pv _ := none
 run vs st K := if memChk d vs st.nx (nlk (memMap d vs)) = true then memK d rs pre spec (nlk (memMap d vs)) st K (asTs d.cts (d.cs.map fun t => vs.getD t .any)) ((d.rn (nlk (memMap d vs)) st.nx).dec st) else False
def endM (d : LD) (rvs : List RV) (rs : List Ty) (st' : St) (R : ElT rs → ElT d.vts → Prop) : Prop :=
 match resT rvs rs st', d.dec st' with
 | some r, some (s', _) => R r s'
 | _, _ => False
def wpFM (P : Program) (Γ : Ctx) (f : Nat) (d : LD) (rs : List Ty) (Λ : Nat → Option (Loop (ElT [.bool]))) (Λr : Nat → Option (RLoop (ElT [.bool]))) (c : ElT d.cts) (s : ElT d.vts) (R : ElT rs → ElT d.vts → Prop) : Prop :=
 match codeOf P f with
 | some (n, rvs, ac) => if d.cs.length + d.pts.length ≤ n then wpE Γ [] [.bool] Λ Λr true [] ac (d.body c s) (fun st' => endM d rvs rs st' R) (fun i st' => if i = RET then endM d rvs rs st' R else False) (fun _ => False) else False
 | none => False
def preM {d : LD} : Option (ElT d.cts → ElT d.vts → Prop) → ElT d.cts → ElT d.vts → Prop
 | none, _, _ => True
 | some p, c, s => p c s
variable {P : Program} {W : World} {fr0 : F0} {w w1 w2 : Wd} {st : St} {σ σ' : AH} {ds : List Nat} {nx n1 n2 : Nat} {aenv : Env} {f : Nat → Nat}
mutual
theorem rnV_rel {n : Nat} (hρ : ∀ i, i < n → w2.ρ i = w.ρ (f i)) (hn : n ≤ n2) : ∀ (v : VV) {a : AV}, hasSl v = false → hOk n v = true → VRel P W w nx (rnV f v) a → VRel P W w2 n2 v a
 | .loc h o, a, ht, e, k => by
   simp only [hOk, decide_eq_true_eq] at e
   simp only [rnV, VRel] at k ⊢
   exact ⟨by omega, by rw [hρ h e]; exact k.2⟩
 | .fn g x y, a, ht, e, k => by
   simp only [hOk, Bool.and_eq_true] at e
   simp only [hasSl, Bool.or_eq_false_iff] at ht
   simp only [rnV, VRel] at k ⊢
   obtain ⟨as, bs, rfl, k1, k2⟩ := k
   exact ⟨as, bs, rfl, rnL_rel hρ hn x ht.1 e.1 k1, rnL_rel hρ hn y ht.2 e.2 k2⟩
 | .mp h, a, ht, e, k => by
   simp only [hOk, decide_eq_true_eq] at e
   simp only [rnV, VRel] at k ⊢
   exact ⟨by omega, by rw [hρ h e]; exact k.2⟩
 | .nilf, a, ht, e, k => by simp only [rnV, VRel] at k ⊢; exact k
 | .nilp, a, ht, e, k => by simp only [rnV, VRel] at k ⊢; exact k
 | .nilm, a, ht, e, k => by simp only [rnV, VRel] at k ⊢; exact k
 | .int _ _, a, ht, e, k | .bool _, a, ht, e, k | .str _, a, ht, e, k | .el _ _, a, ht, e, k | .agg _, a, ht, e, k | .lst _ _ _, a, ht, e, k | .vls _ _ _, a, ht, e, k | .pel _, a, ht, e, k | .pw _ _, a, ht, e, k | .ext _, a, ht, e, k | .iter _ _, a, ht, e, k | .tup _, a, ht, e, k | .cnd _ _, a, ht, e, k | .any, a, ht, e, k => by simp [hOk] at e
 | .sl _ _, a, ht, e, k => by cases ht
 | .pe _ _ _ _, a, ht, e, k => by simp [hOk] at e
 | .pa _ _ _ _, a, ht, e, k => by simp [hOk] at e
theorem rnL_rel {n : Nat} (hρ : ∀ i, i < n → w2.ρ i = w.ρ (f i)) (hn : n ≤ n2) : ∀ (v : List VV) {a : List AV}, hasSlL v = false → hOkL n v = true → VRelL P W w nx (rnL f v) a → VRelL P W w2 n2 v a
 | [], a, ht, e, k => by simp only [rnL, VRelL] at k ⊢; exact k
 | x :: xs, a, ht, e, k => by
   simp only [hOkL, Bool.and_eq_true] at e
   simp only [hasSlL, Bool.or_eq_false_iff] at ht
   simp only [rnL, VRelL] at k ⊢
   obtain ⟨b, r, rfl, k1, k2⟩ := k
   exact ⟨b, r, rfl, rnV_rel hρ hn x ht.1 e.1 k1, rnL_rel hρ hn xs ht.2 e.2 k2⟩
end
mutual
theorem rnV_rel' {n : Nat} (hρ : ∀ i, i < n → w2.ρ i = w.ρ (f i)) (hf : ∀ i, i < n → f i < nx) : ∀ (v : VV) {a : AV}, hasSl v = false → hOk n v = true → VRel P W w2 n2 v a → VRel P W w nx (rnV f v) a
 | .loc h o, a, ht, e, k => by
   simp only [hOk, decide_eq_true_eq] at e
   simp only [rnV, VRel] at k ⊢
   exact ⟨hf h e, by rw [← hρ h e]; exact k.2⟩
 | .fn g x y, a, ht, e, k => by
   simp only [hOk, Bool.and_eq_true] at e
   simp only [hasSl, Bool.or_eq_false_iff] at ht
   simp only [rnV, VRel] at k ⊢
   obtain ⟨as, bs, rfl, k1, k2⟩ := k
   exact ⟨as, bs, rfl, rnL_rel' hρ hf x ht.1 e.1 k1, rnL_rel' hρ hf y ht.2 e.2 k2⟩
 | .mp h, a, ht, e, k => by
   simp only [hOk, decide_eq_true_eq] at e
   simp only [rnV, VRel] at k ⊢
   exact ⟨hf h e, by rw [← hρ h e]; exact k.2⟩
 | .nilf, a, ht, e, k => by simp only [rnV, VRel] at k ⊢; exact k
 | .nilp, a, ht, e, k => by simp only [rnV, VRel] at k ⊢; exact k
 | .nilm, a, ht, e, k => by simp only [rnV, VRel] at k ⊢; exact k
 | .int _ _, a, ht, e, k | .bool _, a, ht, e, k | .str _, a, ht, e, k | .el _ _, a, ht, e, k | .agg _, a, ht, e, k | .lst _ _ _, a, ht, e, k | .vls _ _ _, a, ht, e, k | .pel _, a, ht, e, k | .pw _ _, a, ht, e, k | .ext _, a, ht, e, k | .iter _ _, a, ht, e, k | .tup _, a, ht, e, k | .cnd _ _, a, ht, e, k | .any, a, ht, e, k => by simp [hOk] at e
 | .sl _ _, a, ht, e, k => by cases ht
 | .pe _ _ _ _, a, ht, e, k => by simp [hOk] at e
 | .pa _ _ _ _, a, ht, e, k => by simp [hOk] at e
theorem rnL_rel' {n : Nat} (hρ : ∀ i, i < n → w2.ρ i = w.ρ (f i)) (hf : ∀ i, i < n → f i < nx) : ∀ (v : List VV) {a : List AV}, hasSlL v = false → hOkL n v = true → VRelL P W w2 n2 v a → VRelL P W w nx (rnL f v) a
 | [], a, ht, e, k => by simp only [rnL, VRelL] at k ⊢; exact k
 | x :: xs, a, ht, e, k => by
   simp only [hOkL, Bool.and_eq_true] at e
   simp only [hasSlL, Bool.or_eq_false_iff] at ht
   simp only [rnL, VRelL] at k ⊢
   obtain ⟨b, r, rfl, k1, k2⟩ := k
   exact ⟨b, r, rfl, rnV_rel' hρ hf x ht.1 e.1 k1, rnL_rel' hρ hf xs ht.2 e.2 k2⟩
end
theorem flat_rel {v : VV} {a : AV} (hv : v.flat = true) (htk : w2.tk = w1.tk) (hn : ∀ id, tokOf v = .own id → id < n2) (h : VRel P W w1 n1 v a) : VRel P W w2 n2 v a := by
 cases v <;> first | (cases hv; done) | (simp only [VRel] at h ⊢ <;> exact h) | skip
 rename_i t l tk
 simp only [VRel] at h ⊢
 obtain ⟨tok, rfl, h⟩ := h
 refine ⟨tok, rfl, ?_⟩
 cases tk with
 | none => trivial
 | clip => exact h
 | own id => exact ⟨hn id rfl, by rw [h.2, htk]⟩
theorem objFill_conv {g1 g2 : VV → VV} {vals : List VV} {sh : List (Option VV)} (hc : ∀ c, some c ∈ sh → ∀ a, VRel P W w1 n1 (g1 c) a → VRel P W w2 n2 (g2 c) a) (hv : ∀ v ∈ vals, ∀ a, VRel P W w1 n1 v a → VRel P W w2 n2 v a) :
  ∀ {cells : List AV}, VRelL P W w1 n1 (objFill (sh.map fun o => o.map g1) vals) cells → VRelL P W w2 n2 (objFill (sh.map fun o => o.map g2) vals) cells := by
 induction sh generalizing vals with
 | nil => intro cells h; cases vals <;> simpa only [List.map_nil, objFill, VRelL] using h
 | cons o sh ih =>
   intro cells h
   cases o with
   | some c =>
     simp only [List.map_cons, Option.map_some, objFill, VRelL] at h ⊢
     obtain ⟨a, r, rfl, h1, h2⟩ := h
     exact ⟨a, r, rfl, hc c (by simp) a h1, ih (fun c hm => hc c (by simp [hm])) hv h2⟩
   | none =>
     cases vals with
     | nil =>
       simp only [List.map_cons, Option.map_none, objFill, VRelL, VRel] at h ⊢
       obtain ⟨a, r, rfl, _, h2⟩ := h
       exact ⟨a, r, rfl, trivial, ih (fun c hm => hc c (by simp [hm])) hv h2⟩
     | cons v vals =>
       simp only [List.map_cons, Option.map_none, objFill, VRelL] at h ⊢
       obtain ⟨a, r, rfl, h1, h2⟩ := h
       exact ⟨a, r, rfl, hv v (by simp) a h1, ih (fun c hm => hc c (by simp [hm])) (fun v hm => hv v (by simp [hm])) h2⟩
theorem nVars_map (g : VV → VV) : ∀ sh : List (Option VV), nVars (sh.map fun o => o.map g) = nVars sh
 | [] => rfl
 | none :: sh => by simp [nVars, nVars_map g sh]
 | some _ :: sh => by simp [nVars, nVars_map g sh]
theorem fillO_spec (f : Nat → Nat) : ∀ (os : List (Nat × OK × List (Option VV))) (vals : List VV) (p : Nat × LObj), p ∈ fillO os vals → ∃ x ∈ os, ∃ j, p = (x.1, .ob x.2.1 (objFill x.2.2 (vals.drop j))) ∧
  (f x.1, LObj.ob x.2.1 (objFill (x.2.2.map fun o => o.map (rnV f)) (vals.drop j))) ∈ fillO (os.map fun p => (f p.1, p.2.1, p.2.2.map fun o => o.map (rnV f))) vals
 | [], vals, p, h => by simp [fillO] at h
 | (hd, kd, sh) :: os, vals, p, h => by
   simp only [fillO, List.mem_cons] at h
   rcases h with rfl | h
   ·exact ⟨(hd, kd, sh), by simp, 0, rfl, by simp [fillO]⟩
   ·obtain ⟨x, hx, j, e, k⟩ := fillO_spec f os _ p h
    refine ⟨x, by simp [hx], nVars sh + j, by rw [e, List.drop_drop], ?_⟩
    simp only [List.map_cons, fillO, List.mem_cons]
    refine .inr ?_
    rw [nVars_map, ← List.drop_drop]; exact k
theorem fillO_spec' (f : Nat → Nat) : ∀ (os : List (Nat × OK × List (Option VV))) (vals : List VV) (p : Nat × LObj), p ∈ fillO (os.map fun p => (f p.1, p.2.1, p.2.2.map fun o => o.map (rnV f))) vals → ∃ x ∈ os, ∃ j,
  p = (f x.1, .ob x.2.1 (objFill (x.2.2.map fun o => o.map (rnV f)) (vals.drop j))) ∧ (x.1, LObj.ob x.2.1 (objFill x.2.2 (vals.drop j))) ∈ fillO os vals
 | [], vals, p, h => by simp [fillO] at h
 | (hd, kd, sh) :: os, vals, p, h => by
   simp only [List.map_cons, fillO, List.mem_cons] at h
   rcases h with rfl | h
   ·exact ⟨(hd, kd, sh), by simp, 0, rfl, by simp [fillO]⟩
   ·rw [nVars_map] at h
    obtain ⟨x, hx, j, e, k⟩ := fillO_spec' f os _ p h
    refine ⟨x, by simp [hx], nVars sh + j, by rw [e, List.drop_drop], ?_⟩
    simp only [fillO, List.mem_cons]
    refine .inr ?_
    rw [← List.drop_drop]; exact k
theorem ownVs_tok : ∀ (bs : List Bool) (n : Nat) (vs : List VV), (∀ v ∈ vs, tokOf v = .none) → ∀ v ∈ ownVs n bs vs, ∀ id, tokOf v = .own id → id < n + bs.length
 | [], n, vs, h, v, hv, id, e => by rw [h v hv] at e; cases e
 | _ :: _, n, [], h, v, hv, id, e => by simp [ownVs] at hv
 | true :: bs, n, u :: vs, h, v, hv, id, e => by
   simp only [ownVs, List.mem_cons] at hv
   rcases hv with rfl | hv
   ·have h0 := h u (by simp)
    have : id = n := by
     cases u <;> simp only [setTok, tokOf] at e h0 <;> first | (cases e; done) | (rw [h0] at e; cases e; done) | (cases e; rfl)
    simp only [List.length_cons]; omega
   ·have := ownVs_tok bs (n + 1) vs (fun v hv => h v (by simp [hv])) v hv id e
    simp only [List.length_cons]; omega
 | false :: bs, n, u :: vs, h, v, hv, id, e => by
   simp only [ownVs, List.mem_cons] at hv
   rcases hv with rfl | hv
   ·rw [h v (by simp)] at e; cases e
   ·have := ownVs_tok bs (n + 1) vs (fun v hv => h v (by simp [hv])) v hv id e
    simp only [List.length_cons]; omega
theorem toVs_tok : ∀ (ts : List Ty) (x : ElT ts), ∀ v ∈ toVs ts x, tokOf v = .none
 | [], x, v, h => by simp [toVs] at h
 | [t], x, v, h => by
   simp only [toVs, List.mem_singleton] at h
   subst h; cases t <;> rfl
 | t :: u :: ts, x, v, h => by
   simp only [toVs, List.mem_cons] at h
   rcases h with rfl | h
   ·cases t <;> rfl
   ·exact toVs_tok (u :: ts) x.2 v h
structure MemOK (d : LD) (vs : List VV) (nx : Nat) (f : Nat → Nat) : Prop where
 len : vs.length = d.cs.length + d.pts.length
 ok : LDok d
 pts : ∀ p ∈ d.pts, vs.getD p.1 .any = rnV f p.2
 nxle : d.nx ≤ nx
 all : ∀ i, i < d.nx → i ∈ d.os.map (·.1)
 inj : ∀ i ∈ d.os.map (·.1), ∀ j ∈ d.os.map (·.1), f i = f j → i = j
 pin : ∀ p ∈ d.os, ∀ c, some c ∈ p.2.2 → hOk d.nx c = true
 vs0 : d.vs = []
 nsl : d.hasSl = false
 nslr : (d.rn f nx).hasSl = false
theorem nsl_pts {d : LD} (h : d.hasSl = false) {p : Nat × VV} (hp : p ∈ d.pts) : hasSl p.2 = false := by
 simp only [LD.hasSl, Bool.or_eq_false_iff, List.any_eq_false] at h
 simpa using h.1 p hp
theorem nsl_pin {d : LD} (h : d.hasSl = false) {p : Nat × OK × List (Option VV)} (hp : p ∈ d.os) {c : VV} (hc : some c ∈ p.2.2) : hasSl c = false := by
 simp only [LD.hasSl, Bool.or_eq_false_iff, List.any_eq_false] at h
 have := h.2 p hp
 simp only [shSl, Bool.not_eq_true, List.any_eq_false] at this
 simpa using this _ hc
theorem memChk_spec {d : LD} {vs : List VV} (h : memChk d vs nx f = true) : MemOK d vs nx f := by
 simp only [memChk, Bool.and_eq_true, decide_eq_true_eq, List.all_eq_true, Bool.or_eq_true, bne_iff_ne, beq_iff_eq] at h
 obtain ⟨⟨⟨⟨⟨⟨⟨⟨⟨h1, h2⟩, h3⟩, h4⟩, h5⟩, h6⟩, h7⟩, h8⟩, h9⟩, h10⟩ := h
 refine ⟨h1, LD.ok_spec h2, fun p hp => sameV_eq _ _ (h3 p hp), h4, fun i hi => by simpa using h5 i (by simpa using hi), ?_, fun p hp c hc => h7 p hp (some c) hc, h8, by simpa using h9, by simpa using h10⟩
 intro i hi j hj e
 obtain ⟨p, hp, rfl⟩ := List.mem_map.1 hi
 obtain ⟨q, hq, rfl⟩ := List.mem_map.1 hj
 rcases h6 p hp q hq with h | h
 ·exact h
 ·exact absurd e h
theorem memStart {d : LD} {vs : List VV} {c : ElT d.cts} {s : ElT d.vts} {live : List Nat} {as bs : List AV} {st : St} (hd : MemOK d vs st.nx f) (hr : HR P W fr0 w st σ ds) (hs : LDec P W (d.rn f st.nx) w st σ [] s live as)
  (hC : (d.cs.map (argEnv 0 bs).get).map AV.bare = encTs d.cts c) (hP : ∀ p ∈ d.pts, VRel P W w st.nx (rnV f p.2) ((argEnv 0 bs).get p.1)) :
  ∃ w2, w2.fr = (d.rn f st.nx).rest { base := fr0.base, lo := none } w σ as ∧ (∀ i, i < d.nx → w2.ρ i = w.ρ (f i)) ∧
    StR P W { base := (d.rn f st.nx).rest { base := fr0.base, lo := none } w σ as, lo := none } w2 (d.body c s) (argEnv 0 bs) σ [] := by
 let F : AH := (d.rn f st.nx).rest { base := fr0.base, lo := none } w σ as
 let w2 : Wd := { ρ := fun i => w.ρ (f i), tk := fun i => if d.nx ≤ i ∧ i < d.nx + d.own.length then avTok (as.getD (i - d.nx) .any) else w.tk i, ext := w.ext, fr := F }
 let wx : Wd := { w with tk := w2.tk }
 have hlen : as.length = d.vts.length := hs.len
 have hval : ∀ wz : Wd, wz.tk = w2.tk → ∀ nz, d.nx + d.own.length ≤ nz → VRelL P W wz nz (ownVs d.nx d.own (toVs d.vts s)) as := by
  intro wz hz nz hnz
  refine ownVs_rel _ _ _ _ (toVs_rel _ _ _ hs.enc) fun i hi hl => ?_
  have hlt : i < d.own.length := by
   rcases Nat.lt_or_ge i d.own.length with h1 | h1
   ·exact h1
   ·simp [List.getD_eq_getElem?_getD, List.getElem?_eq_none h1] at hi
  refine ⟨by omega, ?_⟩
  rw [hz]
  simp only [w2]
  rw [if_pos ⟨by omega, by omega⟩, show d.nx + i - d.nx = i by omega]
 have htk : ∀ i, d.own.getD i false = true → i < d.own.length ∧ i < as.length ∧ w2.tk (d.nx + i) = avTok (as.getD i .any) := fun i hi => by
  have hlt : i < d.own.length := by
   rcases Nat.lt_or_ge i d.own.length with h1 | h1
   ·exact h1
   ·simp [List.getD_eq_getElem?_getD, List.getElem?_eq_none h1] at hi
  refine ⟨hlt, by rw [hlen, ← hd.ok.own]; exact hlt, ?_⟩
  simp only [w2]
  rw [if_pos ⟨by omega, by omega⟩, show d.nx + i - d.nx = i by omega]
 have hflat := ownVs_flat d.own d.nx _ (toVs_flat d.vts s)
 have htok := ownVs_tok d.own d.nx _ (toVs_tok d.vts s)
 have hobj := hs.obj wx (st.nx + (d.nx + d.own.length)) (ownVs d.nx d.own (toVs d.vts s)) (fun _ _ => rfl) (fun q => by rw [hd.nslr] at q; cases q) (Nat.le_add_right _ _) (by rw [show (d.rn f st.nx).vs = [] from rfl]; exact hval wx rfl _ (by omega)) hflat
 have hmem : ∀ h o, hlk (d.body c s).hp h = some o → h ∈ d.os.map (·.1) ∧ (∃ o, hlk st.hp (f h) = some o) ∧ ∃ ao, σ (w.ρ (f h)) = some ao ∧ ORel P W w2 (d.nx + d.own.length) o ao := by
  intro h o hx
  have hm : (h, o) ∈ fillO d.os (ownVs d.nx d.own (toVs d.vts s)) := by
   have := hlk_mem hx
   simp only [LD.body, hd.vs0, List.length_nil, List.drop_zero] at this
   exact this
  obtain ⟨x, hx1, j, e, k⟩ := fillO_spec f _ _ _ hm
  cases e
  obtain ⟨k1, k2, ao, k3, cells, k4, k5⟩ := hobj _ k
  refine ⟨List.mem_map_of_mem hx1, k2, ao, k3, cells, ?_, k5⟩
  have hid : ∀ sh : List (Option VV), sh.map (fun o => o.map (id : VV → VV)) = sh := fun sh => by simp
  rw [← hid x.2.2]
  refine objFill_conv (g2 := id) (fun c hc a ha => ?_) (fun v hv a ha => ?_) k4
  ·exact rnV_rel (w := wx) (f := f) (n := d.nx) (fun _ _ => rfl) (Nat.le_add_right _ _) c (nsl_pin hd.nsl hx1 hc) (hd.pin x hx1 c hc) ha
  ·have hv' := List.mem_of_mem_drop hv
   exact flat_rel (w1 := wx) (hflat v hv') rfl (htok v hv') ha
 have hfh : ∀ i ∈ d.os.map (·.1), f i ∈ (d.rn f st.nx).os.map (·.1) := fun i hi => by
  obtain ⟨p, hp, rfl⟩ := List.mem_map.1 hi
  exact List.mem_map.2 ⟨_, List.mem_map_of_mem hp, rfl⟩
 refine ⟨w2, rfl, fun _ _ => rfl, ER_of fun p hp => ?_, ?_⟩
 ·simp only [LD.body, hd.vs0, List.zip_nil_left, List.append_nil, List.mem_append] at hp ⊢
  rcases hp with hp | hp
  ·refine VRelL_zip _ _ (.inr trivial) (toVs_cnd _ _) (fun i t v ht hv => ?_) p hp
   have hvr := toVs_rel (P := P) (W := W) (w := w2) (nx := d.nx + d.own.length) _ _ _ hC
   obtain ⟨a, h1, h2⟩ := hvr.get i hv
   rw [List.getElem?_map, ht] at h1
   cases h1; exact h2
  ·have := hd.ok.pts p hp
   exact (SR_plain (hOk_cnd this.1)).2 (rnV_rel (w := w) (f := f) (n := d.nx) (fun _ _ => rfl) (Nat.le_add_right _ _) _ (nsl_pts hd.nsl hp) this.1 (hP p hp))
 ·refine ⟨LD.rest_le, AH.le_refl _, fun h o hx => (hmem h o hx).2.2, ?_, ?_, ?_, ?_, ?_, ?_, ?_, List.nodup_nil, fun b hb => (by cases hb), fun l o hl => (by cases hl)⟩
  ·intro h o hx
   obtain ⟨p, hp, he⟩ := List.mem_map.1 (hmem h o hx).1
   have := hd.ok.os p hp
   simp only [LD.body]
   omega
  ·intro h o hx
   simp only [w2, F, LD.rest]
   rw [if_pos (.inl ⟨f h, hfh h (hmem h o hx).1, rfl⟩)]
  ·intro h h' o o' hx hx' he
   obtain ⟨vs, hv⟩ := (hmem h o hx).2.1
   obtain ⟨vs', hv'⟩ := (hmem h' o' hx').2.1
   exact hd.inj _ (hmem h o hx).1 _ (hmem h' o' hx').1 (hr.inj _ _ _ _ hv hv' he)
  ·intro id hid
   obtain ⟨i, rfl, hi⟩ := (mem_ownIds _ _ _).1 hid
   have := (htk i hi).1
   simp only [LD.body]; omega
  ·intro id hid
   obtain ⟨i, rfl, hi⟩ := (mem_ownIds _ _ _).1 hid
   obtain ⟨h1, h2, h3⟩ := htk i hi
   rw [h3]
   rcases hs.toks.src i hi h2 with h4 | ⟨id, h4, _, h5⟩
   ·rw [h4]; trivial
   ·rw [h5]; exact hr.live id h4
  ·intro id hid c hc
   obtain ⟨i, rfl, hi⟩ := (mem_ownIds _ _ _).1 hid
   obtain ⟨h1, h2, h3⟩ := htk i hi
   rw [h3] at hc
   simp only [w2, F, LD.rest]
   rw [if_pos (.inr (.inl ⟨i, hi, h2, hc⟩))]
  ·intro id hid jd hjd hne c hc
   obtain ⟨i, rfl, hi⟩ := (mem_ownIds _ _ _).1 hid
   obtain ⟨j, rfl, hj⟩ := (mem_ownIds _ _ _).1 hjd
   obtain ⟨h1, h2, h3⟩ := htk i hi
   obtain ⟨k1, k2, k3⟩ := htk j hj
   rw [h3] at hc; rw [k3]
   exact hs.toks.pair i j (by omega) hi hj h2 k2 c hc
theorem memEnd {d : LD} {vs : List VV} {s s' : ElT d.vts} {live live' : List Nat} {as : List AV} {st st' : St} {w' : Wd} {aenv' : Env} {ds' : List Nat} (hd : MemOK d vs st.nx f) (hr : HR P W fr0 w st σ ds) (hs : LDec P W (d.rn f st.nx) w st σ [] s live as)
  (hS : StR P W { base := (d.rn f st.nx).rest { base := fr0.base, lo := none } w σ as, lo := none } w' st' aenv' σ' ds') (hdec : d.dec st' = some (s', live')) (hρ : ∀ i, i < d.nx → w'.ρ i = w.ρ (f i)) :
  ∃ w4, Wd.le st.nx w w4 ∧ HR P W fr0 w4 (memAfter d f st live s') (σ'.delAll ds') ds ∧ st.nx ≤ (memAfter d f st live s').nx := by
 obtain ⟨as', hL'⟩ := LD.dec_rel hdec hS.1 hS.2
 let d' := d.rn f st.nx
 let F : AH := d'.rest { base := fr0.base, lo := none } w σ as
 have hok' : LDok d' := by
  refine ⟨fun p hp => (by cases hp), fun p hp => ?_, hd.ok.own, fun t ht => (by cases ht), fun t ht => (by cases ht)⟩
  obtain ⟨o, ho⟩ := hs.here p.1 (List.mem_map_of_mem hp)
  exact hr.hlt _ _ ho
 have hfl : ∀ i, i < d.nx → f i < st.nx := fun i hi => by
  obtain ⟨p, hp, rfl⟩ := List.mem_map.1 (hd.all i hi)
  obtain ⟨o, ho⟩ := hs.here (f p.1) (List.mem_map.2 ⟨_, List.mem_map_of_mem hp, rfl⟩)
  exact hr.hlt _ _ ho
 have hmk : ∀ c o, o.mine = true → σ' c = some o → (σ'.delAll ds') c = some o := fun c o hm hc => by
  rw [delAll_get, if_neg]
  ·exact hc
  ·intro h; rw [(hS.2.mrk c h).1] at hc; cases hc; cases hm
 have hFb : F.le (σ'.delAll ds') := fun c o hc => by
  rw [delAll_get, if_neg]
  ·exact hS.2.fr _ _ (hS.2.base _ _ hc)
  ·intro hm
   have h0 : F c = none := (hS.2.mrk c hm).2
   rw [h0] at hc; cases hc
 let w3 : Wd := { ρ := w.ρ, tk := w'.tk, ext := w.ext, fr := w'.fr }
 let st0 : St := { st with env := [] }
 let st3 : St := { st0 with live := st'.live }
 have hL3 : LDec P W d' w3 st3 (σ'.delAll ds') [] s' live' as' := by
  refine ⟨hL'.len, fun i t ht => by simp [d', LD.rn] at ht, hL'.enc, ⟨hL'.toks.sub, hL'.toks.src, hL'.toks.pair⟩, Nat.zero_le _, fun wx nz vals h1 _ h2 h3 h5 p hp => ?_, hs.here⟩
  obtain ⟨x, hx, j, rfl, k⟩ := fillO_spec' f _ _ _ hp
  have hnz : d.nx ≤ nz := Nat.le_trans hd.nxle h2
  let wy : Wd := { ρ := w'.ρ, tk := wx.tk, ext := w'.ext, fr := w'.fr }
  have hxi : x.1 < d.nx := hd.ok.os x hx
  obtain ⟨k1, k2, ao, k3, cells, k4, k5⟩ := hL'.obj wy nz vals (fun _ _ => rfl) (fun q => by rw [hd.nsl] at q; cases q) hnz (by
   rw [hd.vs0]
   have h3' : VRelL P W wx nz vals as' := h3
   have conv : ∀ (vals : List VV) (as' : List AV), (∀ v ∈ vals, v.flat = true) → VRelL P W wx nz vals as' → VRelL P W wy nz vals as' := by
    intro vals
    induction vals with
    | nil => intro as' _ h; simpa only [VRelL] using h
    | cons v vals ih =>
      intro as' hf h
      simp only [VRelL] at h ⊢
      obtain ⟨a, r, rfl, g1, g2⟩ := h
      refine ⟨a, r, rfl, flat_rel (w1 := wx) (n1 := nz) (hf v (by simp)) rfl (fun id hid => ?_) g1, ih r (fun v hv => hf v (by simp [hv])) g2⟩
      cases v <;> first | (cases hid; done) | skip
      ·simp only [VRel, tokOf] at g1 hid
       obtain ⟨tok, _, g1⟩ := g1
       rw [hid] at g1; exact g1.1
      ·have := hf _ (List.mem_cons_self ..); cases this
   exact conv vals as' h5 h3') h5 _ k
  refine ⟨List.mem_map.2 ⟨_, List.mem_map_of_mem hx, rfl⟩, hs.here _ (List.mem_map.2 ⟨_, List.mem_map_of_mem hx, rfl⟩), ao, ?_, cells, ?_, k5⟩
  ·show (σ'.delAll ds') (w.ρ (f x.1)) = some ao
   rw [← hρ x.1 hxi]
   exact hmk _ _ (OK.rel_mine k5) k3
  ·have hid : ∀ sh : List (Option VV), sh.map (fun o => o.map (id : VV → VV)) = sh := fun sh => by simp
   rw [← hid x.2.2] at k4
   refine objFill_conv (g1 := id) (g2 := rnV f) (fun c hc a ha => ?_) (fun v hv a ha => ?_) k4
   ·refine rnV_rel' (w2 := wy) (n := d.nx) (fun i hi => ?_) (fun i hi => Nat.lt_of_lt_of_le (hfl i hi) h2) c (nsl_pin hd.nsl hx hc) (hd.pin x hx c hc) ha
    show w'.ρ i = wx.ρ (f i)
    rw [hρ i hi, h1 (f i) (hfl i hi)]
   ·have hv' := List.mem_of_mem_drop hv
    refine flat_rel (w1 := wy) (n1 := nz) (h5 v hv') rfl (fun id hid => ?_) ha
    cases v <;> first | (cases hid; done) | skip
    ·simp only [VRel, tokOf] at ha hid
     obtain ⟨tok, _, ha⟩ := ha
     rw [hid] at ha; exact ha.1
    ·have := h5 _ hv'; cases this
 have hr0 : HR P W fr0 w st0 σ ds := hr.withEnv []
 have hs0 : LDec P W d' w st0 σ [] s live as := ⟨hs.len, hs.env, hs.enc, hs.toks, hs.vlen, hs.obj, hs.here⟩
 have he0 : ER P W w st0.nx st0.env [] := fun t => by simp [st0, lk, SR, VRel]
 have hrF : (d'.rest fr0 w σ as).le F := fun c o hc => by
  simp only [LD.rest] at hc
  split at hc
  ·cases hc
  ·rename_i hn
   exact LD.rest_eq hc (fun h hh e => hn (.inl ⟨h, hh, e⟩)) (fun i hi hl hon => hn (.inr (.inl ⟨i, hi, hl, hon⟩))) (fun o' ho' => by cases ho')
 have hlt : ∀ i, d'.own.getD i false = true → i < as'.length := fun i hi => by
  rw [hL3.len, ← hok'.own]
  rcases Nat.lt_or_ge i d'.own.length with h1 | h1
  ·exact h1
  ·simp [List.getD_eq_getElem?_getD, List.getElem?_eq_none h1] at hi
 have hnotobj : ∀ (b : Nat) (o : AObj), σ b = some o → o.mine = false → (∀ e lim, o ≠ .row e lim) → F b = some o := fun b o hb hm hrow => by
  refine LD.rest_eq hb (fun h hh => ?_) (fun i hi hl' hon' => ?_) (fun o' ho' => by cases ho')
  ·rintro rfl
   obtain ⟨vs, hv⟩ := hs.here h hh
   obtain ⟨ao2, h2, h2'⟩ := hr.obj _ _ hv
   rw [hb] at h2; cases h2
   have := h2'.mine
   rw [hm] at this; cases this
  ·rcases hs.toks.src i hi hl' with h1 | ⟨id', h1, h3, h2⟩
   ·rw [h1] at hon'; cases hon'
   ·rw [h2] at hon'
    have hlv2 := hr.live id' h1
    cases hy : w.tk id' with
    | none => rw [hy] at hon'; cases hon'
    | clip => rw [hy] at hon'; cases hon'
    | own b2 e lim =>
      rw [hy] at hlv2 hon'
      simp only [Tok.isOn, beq_iff_eq] at hon'
      subst hon'
      rw [show σ b2 = some (.row e lim) from hlv2] at hb; cases hb
      exact hrow e lim rfl
 obtain ⟨w4, k1, _, k3⟩ := LD.after_gen (ds' := ds) (w' := w3) (st' := st3) (aenv' := []) hok' hr0 he0 hs0 hL3 (fun _ _ => rfl) (fun q => by rw [show d'.hasSl = false from hd.nslr] at q; cases q) (AH.le_trans hrF hFb) (Nat.le_refl _) (fun t ht => by cases ht) (fun i hi => by
   rcases hL'.toks.src i hi (hlt i hi) with h9 | ⟨id', h9, _, h10⟩
   ·rw [h9]; trivial
   ·rw [h10]
    have hlv := hS.2.live id' h9
    cases hy : w'.tk id' with
    | none => rw [hy] at hlv; exact hlv
    | clip => trivial
    | own b2 e lim =>
      rw [hy] at hlv
      show (σ'.delAll ds') b2 = _
      rw [delAll_get, if_neg]
      ·exact hlv
      ·intro hm
       have h0 := (hS.2.mrk b2 hm).1
       have h1 : σ' b2 = some (.row e lim) := hlv
       rw [h1] at h0; cases h0)
  (fun i hi c hc => by
   have : F c = none := by
    rcases hL'.toks.src i hi (hlt i hi) with h9 | ⟨id', h9, _, h10⟩
    ·rw [h9] at hc; cases hc
    ·rw [h10] at hc; exact AH.none_le hS.2.base (hS.2.lfr id' h9 c hc)
   exact AH.none_le hrF this)
  ⟨hr.nd, fun b hb => ⟨hFb _ _ (hnotobj b _ (hr.mrk b hb).1 rfl (by simp)), (hr.mrk b hb).2⟩⟩
  (fun l o hl => by
   obtain ⟨g1, g2, g3⟩ := hr.lrec l o hl
   exact hFb _ _ (hnotobj l o g1 (by cases o <;> first | rfl | cases g3) (by rintro e lim rfl; cases g3)))
 exact ⟨w4, k1, k3.withEnv st.env, Nat.le_add_right _ _⟩
variable {Γ : Ctx}
theorem getD_rel : ∀ {vs : List VV} {as : List AV} (t : Nat), VRelL P W w nx vs as → VRel P W w nx (vs.getD t .any) (as.getD t .any)
 | [], as, t, h => by simp [VRel]
 | v :: vs, as, 0, h => by
   simp only [VRelL] at h
   obtain ⟨a, r, rfl, h1, _⟩ := h
   simpa using h1
 | v :: vs, as, t + 1, h => by
   simp only [VRelL] at h
   obtain ⟨a, r, rfl, _, h2⟩ := h
   simpa using getD_rel t h2
theorem getDs_rel {vs : List VV} {as : List AV} (h : VRelL P W w nx vs as) : ∀ ts : List Nat, VRelL P W w nx (ts.map fun t => vs.getD t .any) (ts.map fun t => as.getD t .any)
 | [] => by simp [VRelL]
 | t :: ts => by simp only [List.map_cons, VRelL]; exact ⟨_, _, rfl, getD_rel t h, getDs_rel h ts⟩
theorem acall_of_wpFM (hΓ : CtxOK P W Γ) {g : Nat} {d : LD} {rs : List Ty} {Λ : Nat → Option (Loop (ElT [.bool]))} {Λr : Nat → Option (RLoop (ElT [.bool]))} {c : ElT d.cts} {s : ElT d.vts} {R : ElT rs → ElT d.vts → Prop} (h : wpFM P Γ g d rs Λ Λr c s R)
  {vs : List VV} {as bs : List AV} {live : List Nat} {st : St} (hd : MemOK d vs st.nx f) (hr : HR P W fr0 w st σ ds) (hb : VRelL P W w st.nx vs bs) (hs : LDec P W (d.rn f st.nx) w st σ [] s live as) (hC : asTs d.cts (d.cs.map fun t => vs.getD t .any) = some c) :
  ACall P W g bs σ fun a τ => ∃ r s', R r s' ∧ ∃ w4, Wd.le st.nx w w4 ∧ HR P W fr0 w4 (memAfter d f st live s') τ ds ∧ st.nx ≤ (memAfter d f st live s').nx ∧ Sim a (encR rs r) := by
 unfold wpFM at h
 split at h
 case h_2 => exact h.elim
 rename_i n rvs ac hcode
 obtain ⟨fn, cc, h1, h2, h3, h4, h5, rfl⟩ := codeOf_spec hcode
 split at h
 case isFalse => exact h.elim
 rename_i hn
 have hbl : bs.length = vs.length := hb.length
 refine acall_of h1 h2 h3 h4 h5 (by rw [hbl, hd.len]; exact hn) ?_
 have hget : ∀ t, (argEnv 0 bs).get t = bs.getD t .any := fun t => by rw [argEnv_get]; simp
 obtain ⟨w2, k1, k2, k3⟩ := memStart (c := c) (bs := bs) hd hr hs (by
  have := asTs_rel _ _ _ _ hC (getDs_rel hb d.cs)
  rw [← this]; congr 1
  exact List.map_congr_left fun t _ => hget t) (fun p hp => by rw [hget, ← hd.pts p hp]; exact getD_rel _ hb)
 have fin : ∀ st' w' aenv' σ' ds', endM d rvs rs st' R → StR P W { base := (d.rn f st.nx).rest { base := fr0.base, lo := none } w σ as, lo := none } w' st' aenv' σ' ds' → Wd.le (d.body c s).nx w2 w' →
   ds'.Nodup ∧ (∀ b ∈ ds', σ' b = some .marks) ∧ resW aenv' (σ'.delAll ds') rvs fun vs => (fun a τ => ∃ r s', R r s' ∧ ∃ w4, Wd.le st.nx w w4 ∧ HR P W fr0 w4 (memAfter d f st live s') τ ds ∧ st.nx ≤ (memAfter d f st live s').nx ∧ Sim a (encR rs r)) (one1 vs) (σ'.delAll ds') := by
  intro st' w' aenv' σ' ds' he hS hle
  unfold endM at he
  split at he
  case h_2 => exact he.elim
  rename_i r s' l' hres hdec
  obtain ⟨w4, g1, g2, g3⟩ := memEnd hd hr hs hS hdec fun i hi => by
   rw [hle.ρ i (by simp only [LD.body]; omega), k2 i hi]
  refine ⟨hS.2.nd, fun b hb => (hS.2.mrk b hb).1, ?_⟩
  unfold resT at hres
  split at hres
  ·rename_i vvs hv
   refine resV_rel hS.1 (τ := σ'.delAll ds') (fun x o hx => ?_) hv fun vs hvs => ⟨r, s', he, w4, g1, g2, g3, one1_sim (asTs_rel _ _ _ _ hres hvs)⟩
   obtain ⟨ao, h1, h2⟩ := hS.2.obj x o hx
   refine ⟨ao, ?_, h2⟩
   rw [delAll_get, if_neg]
   ·exact h1
   ·intro hm
    rw [(hS.2.mrk _ hm).1] at h1
    cases h1
    cases h2.mine
  ·cases hres
 refine wpE_all (fr0 := { base := (d.rn f st.nx).rest { base := fr0.base, lo := none } w σ as, lo := none }) (rof := none) (Q := atEnd rvs _) (n := fn.ntmps) (rvs := []) (Λ := Λ) (Λr := Λr) (top := true) hΓ (fun id z ps a b => CodeOK.rangeF hΓ rfl id z ps a b) ac [] (d.body c s) _ _ _ h w2 (argEnv 0 bs) σ [] [] k3
  (fun st' w' aenv' σ' ds' h6 h7 h8 => AW.fin (fin _ _ _ _ _ h6 h7 h8.le)) (fun i st' w' aenv' σ' ds' h6 h7 h8 => ?_) (fun r st' w' aenv' σ' ds' h6 => h6.elim)
 split at h6
 ·rename_i hi
  exact .inr ⟨hi, fin _ _ _ _ _ h6 h7 h8.le⟩
 ·exact h6.elim
theorem memK_iff {d : LD} {rs : List Ty} {pre : Option (ElT d.cts → ElT d.vts → Prop)} {spec : ElT d.cts → ElT d.vts → ElT rs × ElT d.vts} {st : St} {K : VV → St → Prop} : ∀ {o1 : Option (ElT d.cts)} {o2 : Option (ElT d.vts × List Nat)},
  memK d rs pre spec f st K o1 o2 ↔ ∃ c s live, o1 = some c ∧ o2 = some (s, live) ∧ preM pre c s ∧ ∀ r s', spec c s = (r, s') → K (resVV rs r) (memAfter d f st live s')
 | none, o2 => by simp [memK]
 | some c, none => by simp [memK]
 | some c, some (s, live) => by
   simp only [memK, addC_iff, allT_iff]
   constructor
   ·intro h
    exact ⟨c, s, live, rfl, rfl, by cases pre <;> first | trivial | exact h.1, h.2⟩
   ·rintro ⟨c', s', live', e1, e2, h1, h2⟩
    cases e1; cases e2
    exact ⟨by cases pre <;> first | trivial | exact h1, h2⟩
theorem memCtr_run {d : LD} {rs : List Ty} {pre : Option (ElT d.cts → ElT d.vts → Prop)} {spec : ElT d.cts → ElT d.vts → ElT rs × ElT d.vts} {vs : List VV} {st : St} {K : VV → St → Prop} :
  (memCtr d rs pre spec).run vs st K ↔ memChk d vs st.nx (nlk (memMap d vs)) = true ∧ ∃ (c : ElT d.cts) (s : ElT d.vts) (live : List Nat), asTs d.cts (d.cs.map fun t => vs.getD t .any) = some c ∧ (d.rn (nlk (memMap d vs)) st.nx).dec st = some (s, live) ∧ preM pre c s ∧
   ∀ r s', spec c s = (r, s') → K (resVV rs r) (memAfter d (nlk (memMap d vs)) st live s') := by
 simp only [memCtr]
 constructor
 ·intro h
  split at h
  ·rename_i hc; exact ⟨hc, memK_iff.1 h⟩
  ·exact h.elim
 ·rintro ⟨h1, h2⟩
  rw [if_pos h1]; exact memK_iff.2 h2
theorem memCtr_ok {g : Nat} {d : LD} {rs : List Ty} {pre : Option (ElT d.cts → ElT d.vts → Prop)} {spec : ElT d.cts → ElT d.vts → ElT rs × ElT d.vts}
  (h : ∀ c s, preM pre c s → ∀ {fr0 : F0} {w : Wd} {σ : AH} {ds : List Nat} {f : Nat → Nat} {vs : List VV} {as bs : List AV} {live : List Nat} {st : St}, MemOK d vs st.nx f → HR P W fr0 w st σ ds → VRelL P W w st.nx vs bs → LDec P W (d.rn f st.nx) w st σ [] s live as → asTs d.cts (d.cs.map fun t => vs.getD t .any) = some c →
   ACall P W g bs σ fun a τ => ∃ r s', spec c s = (r, s') ∧ ∃ w4, Wd.le st.nx w w4 ∧ HR P W fr0 w4 (memAfter d f st live s') τ ds ∧ st.nx ≤ (memAfter d f st live s').nx ∧ Sim a (encR rs r)) :
  CtrOK P W g (memCtr d rs pre spec) := by
 constructor
 ·intro vs pv hpv; cases hpv
 ·intro vs st K hrun fr0 w σ ds as hH hr
  obtain ⟨hchk, c, s, live, hc, hdec, hp, hK⟩ := memCtr_run.1 hrun
  have hd := memChk_spec hchk
  have hdec0 : (d.rn (nlk (memMap d vs)) st.nx).dec { st with env := [] } = some (s, live) := hdec
  obtain ⟨as', hL⟩ := LD.dec_rel (P := P) (W := W) (w := w) (aenv := []) (fr0 := fr0) (σ := σ) (ds := ds) hdec0 (fun t => by simp [lk, SR, VRel]) (hH.withEnv [])
  have hL' : LDec P W (d.rn (nlk (memMap d vs)) st.nx) w st σ [] s live as' := ⟨hL.len, hL.env, hL.enc, hL.toks, hL.vlen, hL.obj, hL.here⟩
  refine (h c s hp hd hH hr hL' hc).mono fun a τ ⟨r, s', h1, w4, h2, h3, h4, h5⟩ => ?_
  exact ⟨_, _, w4, hK r s' h1, rfl, h3, resVV_rel h5, h2, h4⟩
theorem memOK {g : Nat} {d : LD} {rs : List Ty} {pre : Option (ElT d.cts → ElT d.vts → Prop)} {spec : ElT d.cts → ElT d.vts → ElT rs × ElT d.vts} (hΓ : CtxOK P W Γ) {Λ : ElT d.cts → ElT d.vts → Nat → Option (Loop (ElT [.bool]))} {Λr : ElT d.cts → ElT d.vts → Nat → Option (RLoop (ElT [.bool]))}
  (h : ∀ c s, preM pre c s → wpFM P Γ g d rs (Λ c s) (Λr c s) c s fun r s' => spec c s = (r, s')) : CtrOK P W g (memCtr d rs pre spec) :=
 memCtr_ok fun c s hp _ _ _ _ _ _ _ _ _ _ hd hr hb hs hC => acall_of_wpFM hΓ (h c s hp) hd hr hb hs hC
end
end Go.AL
namespace Go.AL
open Go.RowKit Classical
set_option linter.unusedVariables false
set_option linter.unusedSimpArgs false
set_option linter.unusedSectionVars false
def Off (φ τ φ' τ' : AH) : Prop := ∀ c o, φ c = none → τ c = some o → τ' c = some o ∧ φ' c = none
theorem Off.refl (φ τ : AH) : Off φ τ φ τ := fun c o h1 h2 => ⟨h2, h1⟩
theorem Off.trans {φ τ φ' τ' φ'' τ'' : AH} (h : Off φ τ φ' τ') (k : Off φ' τ' φ'' τ'') : Off φ τ φ'' τ'' := fun c o h1 h2 => let ⟨g1, g2⟩ := h c o h1 h2; k c o g2 g1
theorem Off.grow {φ τ φ' τ' τ'' : AH} (h : Off φ τ φ' τ') (k : τ'.le τ'') : Off φ τ φ' τ'' := fun c o h1 h2 => let ⟨g1, g2⟩ := h c o h1 h2; ⟨k _ _ g1, g2⟩
theorem Off.le {φ τ φ' τ' F : AH} (h : Off φ τ φ' τ') (hF : F.le τ) (hd : ∀ c, F c ≠ none → φ c = none) : F.le τ' ∧ ∀ c, F c ≠ none → φ' c = none :=
 ⟨fun c o hc => (h c o (hd c (by rw [hc]; simp)) (hF _ _ hc)).1, fun c hc => by
  cases hx : F c with
  | none => exact absurd hx hc
  | some o => exact (h c o (hd c hc) (hF _ _ hx)).2⟩
structure LawS (P : Program) (W : World) (F : AH) (ys : List AV) (J : Nat → AH → Prop) (E : AH → Prop) (y : AV) : Prop where
 step : ∀ k x φ τ, ys[k]? = some x → J k φ → φ.le τ → F.le τ → (∀ c, F c ≠ none → φ c = none) →
  ACallV P W y [x] τ fun v τ' => ∃ φ', φ'.le τ' ∧ Off φ τ φ' τ' ∧ ((v = .bool true ∧ J (k + 1) φ') ∨ (v = .bool false ∧ E φ'))
def AH.or (F φ : AH) : AH := fun c => match F c with
 | some o => some o
 | none => φ c
noncomputable def AH.minus (σ F : AH) : AH := fun c => if F c = none then σ c else none
theorem AH.or_le {F φ τ : AH} (h : F.le τ) (k : φ.le τ) : (F.or φ).le τ := fun c o hc => by
 simp only [AH.or] at hc
 split at hc
 ·rename_i x hx; cases hc; exact h _ _ hx
 ·exact k _ _ hc
theorem AH.minus_le {F σ : AH} : (σ.minus F).le σ := fun c o hc => by
 simp only [AH.minus] at hc
 split at hc
 ·exact hc
 ·cases hc
theorem AH.minus_off {F σ : AH} {c : Nat} (h : F c ≠ none) : (σ.minus F) c = none := by simp [AH.minus, h]
section
variable [Uni3] {P : Program} {W : World} {fr0 : F0} {w w' : Wd} {σ σ' φ τ F : AH} {ds : List Nat} {d : LD} {s s' : ElT d.vts}
def LD.mem (d : LD) : LD := { cs := [], cts := [], pts := [], vs := [], os := d.os, vts := d.vts, own := d.own, ro := [], nx := d.nx }
def LD.bodyM (d : LD) (s : ElT d.vts) : St := { env := [], hp := fillO d.os (ownVs d.nx d.own (toVs d.vts s)), live := ownIds d.nx d.own, nx := d.nx + d.own.length }
theorem LD.bodyM_eq (d : LD) (s : ElT d.vts) : d.mem.body () s = d.bodyM s := by
 simp [LD.body, LD.mem, LD.bodyM, toVs]
structure MemD (d : LD) : Prop where
 os : ∀ p ∈ d.os, p.1 < d.nx
 own : d.own.length = d.vts.length
 pin : ∀ p ∈ d.os, ∀ c, some c ∈ p.2.2 → hOk d.nx c = true
theorem MemD.ok (h : MemD d) : LDok d.mem := ⟨fun p hp => (by cases hp), h.os, h.own, fun t ht => (by cases ht), fun t ht => (by cases ht)⟩
theorem HR.localize (hd : MemD d) (h : HR P W fr0 w (d.bodyM s) σ ds) (hF : F.le w.fr) : HR P W { base := F, lo := none } { w with fr := F } (d.bodyM s) (F.or (σ.minus w.fr)) [] := by
 have keep : ∀ c o, σ c = some o → w.fr c = none → (F.or (σ.minus w.fr)) c = some o := fun c o hc hw => by
  have : F c = none := AH.none_le hF hw
  simp only [AH.or, this, AH.minus, hw, if_true]; exact hc
 refine ⟨fun c o hc => by simp only [AH.or]; rw [show F c = some o from hc], AH.le_refl _, fun x o hx => ?_, h.hlt, fun x o hx => AH.none_le hF (h.hfr x o hx), h.inj, h.llt, fun i hi => ?_, fun i hi c hc => AH.none_le hF (h.lfr i hi c hc), h.dist, List.nodup_nil, fun b hb => (by cases hb), fun l o hl => (by cases hl)⟩
 ·obtain ⟨ao, k1, k2⟩ := h.obj x o hx
  refine ⟨ao, keep _ _ k1 (h.hfr x o hx), ?_⟩
  have hm : (x, o) ∈ fillO d.os (ownVs d.nx d.own (toVs d.vts s)) := hlk_mem hx
  obtain ⟨p, hp, j, e, _⟩ := fillO_spec (fun i => i) _ _ _ hm
  cases e
  obtain ⟨cells, k3, k4⟩ := k2
  refine ⟨cells, ?_, k4⟩
  have hid : ∀ sh : List (Option VV), sh.map (fun o => o.map (id : VV → VV)) = sh := fun sh => by simp
  rw [← hid p.2.2] at k3 ⊢
  refine objFill_conv (g1 := id) (fun c hc a ha => ?_) (fun v hv a ha => ?_) k3
  ·exact hOk_rel (w := w) (w' := { w with fr := F }) (n := d.nx) (fun _ _ => rfl) (Nat.le_add_right _ _) _ (fun _ _ _ => rfl) (hd.pin p hp c hc) ha
  ·have hv' := List.mem_of_mem_drop hv
   exact flat_rel (w1 := w) (w2 := { w with fr := F }) (ownVs_flat _ _ _ (toVs_flat _ _) v hv') rfl (ownVs_tok d.own d.nx _ (toVs_tok d.vts s) v hv') ha
 ·have hlv := h.live i hi
  show Live _ (w.tk i)
  cases ht : w.tk i with
  | none => rw [ht] at hlv; exact hlv
  | clip => trivial
  | own b e lim =>
    rw [ht] at hlv
    exact keep _ _ hlv (h.lfr i hi b (by rw [ht]; simp [Tok.isOn]))
def JM (P : Program) (W : World) (F : AH) (d : LD) (ρ0 : Nat → Nat) (s : ElT d.vts) (φ : AH) : Prop := ∃ w : Wd, (∀ i, i < d.nx → w.ρ i = ρ0 i) ∧ w.fr = F ∧ HR P W { base := F, lo := none } w (d.bodyM s) (F.or φ) []
theorem JM.step {ρ0 : Nat → Nat} {g : Nat} {pre : Option (ElT d.cts → ElT d.vts → Prop)} {spec : ElT d.cts → ElT d.vts → ElT [.bool] × ElT d.vts} (hd : MemD d) (hok : CtrOK P W g (memCtr d [.bool] pre spec))
  {s s' : ElT d.vts} {vs : List VV} {as : List AV} {r : Bool} {f : Nat → Nat} {live : List Nat}
  (hrun : ∀ K : VV → St → Prop, K (.bool r) (memAfter d f (d.bodyM s) live s') → (memCtr d [.bool] pre spec).run vs (d.bodyM s) K)
  (hdec : ∃ l', d.mem.dec (memAfter d f (d.bodyM s) live s') = some (s', l'))
  (hvs : ∀ w : Wd, (∀ i, i < d.nx → w.ρ i = ρ0 i) → VRelL P W w (d.nx + d.own.length) vs as)
  (hJ : JM P W F d ρ0 s φ) (hφ : φ.le τ) (hF : F.le τ) (hdis : ∀ c, F c ≠ none → φ c = none) :
  ACall P W g as τ fun v τ' => v = .bool r ∧ ∃ φ', φ'.le τ' ∧ Off φ τ φ' τ' ∧ JM P W F d ρ0 s' φ' := by
 obtain ⟨w, h1, rfl, h2⟩ := hJ
 let G : AH := τ.minus φ
 have hFG : w.fr.le G := fun c o hc => by
  have := hdis c (by rw [hc]; simp)
  simp only [G, AH.minus, this, if_true]; exact hF _ _ hc
 have h3 := (h2.grow (AH.or_le hF hφ)).upfr (F := G) AH.minus_le hFG (fun c hc1 hc2 => by
  have hφc : φ c = none := by
   by_cases hx : φ c = none
   ·exact hx
   ·simp only [G, AH.minus, hx, if_false] at hc1; exact absurd rfl hc1
  have hn : (AH.or w.fr φ) c = none := by simp only [AH.or, hc2]; exact hφc
  refine ⟨fun x o hx e => ?_, fun i hi => ?_, fun o ho => by cases ho⟩
  ·obtain ⟨ao, k1, _⟩ := h2.obj x o hx
   rw [e, hn] at k1; cases k1
  ·have hlv := h2.live i hi
   cases ht : w.tk i with
   | none => rfl
   | clip => rfl
   | own b e lim =>
     rw [ht] at hlv
     cases hx : (Tok.own b e lim).isOn c with
     | false => rfl
     | true =>
       simp only [Tok.isOn, beq_iff_eq] at hx
       subst hx
       rw [show (AH.or w.fr φ) b = some (.row e lim) from hlv] at hn; cases hn)
 let wG : Wd := { w with fr := G }
 have := hok.run vs (d.bodyM s) (fun v st' => v = .bool r ∧ st' = memAfter d f (d.bodyM s) live s') (hrun _ ⟨rfl, rfl⟩) { base := w.fr, lo := none } wG τ [] as h3 (hvs wG h1)
 refine this.mono fun a τ' ⟨v, st', w', ⟨k1, k2⟩, _, k4, k5, k6, k7⟩ => ?_
 subst k1 k2
 simp only [VRel] at k5
 refine ⟨k5, τ'.minus G, AH.minus_le, fun c o hc1 hc2 => ?_, ?_⟩
 ·have hGc : G c = some o := by simp only [G, AH.minus, hc1, if_true]; exact hc2
  exact ⟨k4.fr _ _ (k6.fr _ _ hGc), AH.minus_off (by rw [hGc]; simp)⟩
 ·obtain ⟨l', hde⟩ := hdec
  have k4' : HR P W { base := w.fr, lo := none } w' { (memAfter d f (d.bodyM s) live s') with env := [] } τ' [] := k4.withEnv []
  have hde' : d.mem.dec { (memAfter d f (d.bodyM s) live s') with env := [] } = some (s', l') := hde
  obtain ⟨as', hL⟩ := LD.dec_rel (aenv := []) hde' (fun t => by simp [lk, SR, VRel]) k4'
  obtain ⟨w2, g1, g2, _, _, g5, _⟩ := LD.canon (c := ()) (F := G) hd.ok k4' hL rfl (fun p hp => by cases hp) (AH.le_trans k6.fr (hL.fr_le k4')) hFG
  rw [LD.bodyM_eq] at g5
  have hlo := HR.localize (F := w.fr) hd g5 (by rw [g2]; exact hFG)
  rw [g2] at hlo
  refine ⟨{ w2 with fr := w.fr }, fun i hi => ?_, rfl, hlo⟩
  show w2.ρ i = ρ0 i
  rw [g1, k6.ρ i (by simp only [LD.bodyM]; omega)]; exact h1 i hi
theorem JM.of {w : Wd} (hd : MemD d) (h : HR P W { base := F, lo := none } w (d.bodyM s) σ ds) (hF : w.fr = F) : JM P W F d w.ρ s (σ.minus F) := by
 subst hF
 exact ⟨w, fun _ _ => rfl, rfl, HR.localize hd h (AH.le_refl _)⟩
end
end Go.AL
namespace Go.AL
open Go.RowKit
set_option linter.unusedVariables false
set_option linter.unusedSimpArgs false
set_option linter.unusedSectionVars false
section
variable [Uni3]
def unT : List Ty → VV → List VV
 | [], _ => []
 | [_], v => [v]
 | _ :: _ :: _, .tup vs => vs
 | _ :: _ :: _, _ => []
def st00 : St := { env := [], hp := [], live := [], nx := 0 }
variable {P : Program} {W : World} {f : Nat}
theorem point_fun {c : Ctr} (hc : CtrOK P W f c) {ps rs : List Ty} (b : ElT ps) (r : ElT rs) (hrs : rs ≠ [])
  (h : c.run (toVs ps b) st00 fun v _ => asTs rs (unT rs v) = some r) (as : List AV) (has : as.map AV.bare = encTs ps b) (σ : AH) : ACall P W f as σ fun v σ' => Sim v (encR rs r) ∧ σ.le σ' := by
 let w : Wd := { ρ := fun x => x, tk := fun _ => .none, ext := fun _ _ => False, fr := σ }
 refine (hc.run (toVs ps b) st00 _ h { base := σ, lo := none } w σ [] as ⟨AH.le_refl _, AH.le_refl _, fun x o hx => by simp [hlk, st00] at hx, fun x o hx => by simp [hlk, st00] at hx, fun x o hx => by simp [hlk, st00] at hx, fun x y o o' hx => by simp [hlk, st00] at hx,
      fun i hi => by simp [st00] at hi, fun i hi => by simp [st00] at hi, fun i hi => by simp [st00] at hi, fun i hi => by simp [st00] at hi, List.nodup_nil, fun b hb => (by cases hb), fun l o hl => (by cases hl)⟩ (toVs_rel _ _ _ has)).mono fun a σ' ⟨v, st', w', h1, h2, h3, h4, h5, h6⟩ => ⟨?_, AH.le_trans h3.base h3.fr⟩
 match rs, hrs, r, h1 with
 | [t], _, r, h1 =>
   have hv : VRelL P W w' st'.nx [v] [a] := by simp only [VRelL]; exact ⟨a, [], rfl, h4, rfl⟩
   have := asTs_rel _ _ _ _ h1 hv
   simp only [encTs, List.map_cons, List.map_nil, List.cons.injEq, and_true] at this
   exact .inr (.inl this)
 | t :: u :: ts, _, r, h1 =>
   cases v <;> simp only [unT] at h1
   case tup vs =>
    simp only [VRel] at h4
    obtain ⟨as', rfl, h4⟩ := h4
    have := asTs_rel _ _ _ _ h1 h4
    exact .inr (.inr ⟨as', rfl, by rw [this]; rfl⟩)
   all_goals exact absurd h1 (by cases t <;> simp [asTs])
theorem point_ok {c : Ctr} (hc : CtrOK P W f c) {ps rs : List Ty} (a : ElT ps) (r : ElT rs) (hrs : rs ≠ [])
  (h : c.run (toVs ps a) st00 fun v _ => asTs rs (unT rs v) = some r) : CtrOK P W f (pureCtr ps rs (some fun b => b = a) fun _ => r) := by
 refine pureCtr_ok fun b hb as has σ => ?_
 have hb' : b = a := hb
 subst hb'
 exact point_fun hc b r hrs h as has σ
theorem point2_ok {c : Ctr} (hc : CtrOK P W f c) {ps rs : List Ty} (a a' : ElT ps) (spec : ElT ps → ElT rs) (hrs : rs ≠ [])
  (h : c.run (toVs ps a) st00 fun v _ => asTs rs (unT rs v) = some (spec a)) (h' : c.run (toVs ps a') st00 fun v _ => asTs rs (unT rs v) = some (spec a')) :
  CtrOK P W f (pureCtr ps rs (some fun b => b = a ∨ b = a') spec) := by
 refine pureCtr_ok fun b hb as has σ => ?_
 have hb' : b = a ∨ b = a' := hb
 rcases hb' with rfl | rfl
 ·exact point_fun hc _ _ hrs h as has σ
 ·exact point_fun hc _ _ hrs h' as has σ
def pureD2 (rs : List Ty) (st : St) (K : VV → St → Prop) (r : ElT rs) : Prop := K (resVV rs r) st
def pureD1 (ps rs : List Ty) (pre : Option (ElT ps → Prop)) (spec : ElT ps → ElT rs) (st : St) (K : VV → St → Prop) (a : ElT ps) : Prop := addC (match pre with | some p => some (p a) | none => none) (pureD2 rs st K (spec a))
def pureD (ps rs : List Ty) (pre : Option (ElT ps → Prop)) (spec : ElT ps → ElT rs) : Ctr where
 pv vs := (pureCtr ps rs pre spec).pv vs
 run vs st K := match asTs ps vs with
  | some a => pureD1 ps rs pre spec st K a
  | none => False
theorem pureD_ok {ps rs : List Ty} {pre : Option (ElT ps → Prop)} {spec : ElT ps → ElT rs} (hc : CtrOK P W f (pureCtr ps rs pre spec)) : CtrOK P W f (pureD ps rs pre spec) := by
 refine ⟨hc.pv, fun vs st K h => hc.run vs st K ?_⟩
 simp only [pureD] at h
 simp only [pureCtr]
 split at h
 ·rename_i a ha
  simp only [pureD1, pureD2] at h
  rw [addC_iff] at h
  rw [ha]
  simp only
  rw [addC_iff, allT_iff]
  exact ⟨h.1, fun r hr => hr ▸ h.2⟩
 ·exact h.elim
end
end Go.AL
namespace Go.AL
open Go.RowKit
set_option linter.unusedVariables false
set_option linter.unusedSectionVars false
inductive Tm where
 | mk (kind : Int) (text : ByteArray) (kids : List Tm)
def Tm.kind : Tm → Int | .mk k _ _ => k
def Tm.text : Tm → ByteArray | .mk _ s _ => s
def Tm.kids : Tm → List Tm | .mk _ _ l => l
instance : Inhabited Tm := ⟨.mk 0 ⟨#[]⟩ []⟩
@[simp] theorem Tm.eta (t : Tm) : Tm.mk t.kind t.text t.kids = t := by cases t; rfl
structure Cmd where
 kind : Int
 sym : Tm
 label : ByteArray
 deriving Inhabited
structure Blk where
 label : ByteArray
 cmds : List Cmd
 deriving Inhabited
structure Bnd where
 var : ByteArray
 val : List Tm
 deriving Inhabited
structure Unq where
 a : Tm
 b : Tm
 deriving Inhabited
structure Cfg where
 expr : List Tm
 apart : List Unq
 deriving Inhabited
structure Edg where
 src : Int
 dst : Int
 kind : Int
 sym : Tm
 exc : List Tm
 inner : Int
 deriving Inhabited
structure Aut where
 states : Int
 start : Int
 final : List Int
 edges : List Edg
 deriving Inhabited
structure Bts where
 b0 : Int
 b1 : Int
 b2 : Int
 b3 : Int
 b4 : Int
 b5 : Int
 b6 : Int
 deriving Inhabited, DecidableEq
structure Fiv where
 k0 : Int
 k1 : Int
 k2 : Int
 k3 : Int
 k4 : Int
 deriving Inhabited
mutual
def encT : Tm → AV
 | .mk k s l => .agg [.int .i64 k, .str s, .lst 3 (encTL l) .none]
def encTL : List Tm → List AV
 | [] => []
 | t :: l => encT t :: encTL l
end
theorem encTL_map : ∀ l : List Tm, encTL l = l.map encT
 | [] => rfl
 | t :: l => by simp [encTL, encTL_map l]
def encN0 (t : Tm) : List AV := [.int .i64 t.kind, .str t.text, .lst 3 (t.kids.map encT) .none]
theorem encT_eq (t : Tm) : encT t = .agg (encN0 t) := by
 cases t with
 | mk k s l => simp [encT, encN0, Tm.kind, Tm.text, Tm.kids, encTL_map]
def encN1 (x : Cmd) : List AV := .int .i64 x.kind :: encN0 x.sym ++ [.str x.label]
def encN2 (x : Blk) : List AV := [.str x.label, .lst 5 (x.cmds.map fun c => .agg (encN1 c)) .none]
def encN3 (x : Bnd) : List AV := [.str x.var, .lst 3 (x.val.map encT) .none]
def encN4 (x : Unq) : List AV := encN0 x.a ++ encN0 x.b
def encN5 (x : Cfg) : List AV := [.lst 3 (x.expr.map encT) .none, .lst 6 (x.apart.map fun c => .agg (encN4 c)) .none]
def encN6 (x : Edg) : List AV := .int .i64 x.src :: .int .i64 x.dst :: .int .i64 x.kind :: (encN0 x.sym ++ [.lst 3 (x.exc.map encT) .none, .int .i64 x.inner])
def encN7 (x : Aut) : List AV := [.int .i64 x.states, .int .i64 x.start, .lst 1 (x.final.map fun n => .int .i64 n) .none, .lst 8 (x.edges.map fun c => .agg (encN6 c)) .none]
def encN8 (x : Bts) : List AV := [.int .u64 x.b0, .int .u64 x.b1, .int .u64 x.b2, .int .u64 x.b3, .int .u64 x.b4, .int .u64 x.b5, .int .u64 x.b6]
def encN9 (x : Fiv) : List AV := [.int .i64 x.k0, .int .i64 x.k1, .int .i64 x.k2, .int .i64 x.k3, .int .i64 x.k4]
def NT : Nat → Type
 | 0 => Tm
 | 1 => Cmd
 | 2 => Blk
 | 3 => Bnd
 | 4 => Unq
 | 5 => Cfg
 | 6 => Edg
 | 7 => Aut
 | 8 => Bts
 | 9 => Fiv
 | _ => Unit
def NE : (n : Nat) → NT n → List AV
 | 0, x => encN0 x
 | 1, x => encN1 x
 | 2, x => encN2 x
 | 3, x => encN3 x
 | 4, x => encN4 x
 | 5, x => encN5 x
 | 6, x => encN6 x
 | 7, x => encN7 x
 | 8, x => encN8 x
 | 9, x => encN9 x
 | _ + 10, _ => []
def NS : Nat → Nat
 | 0 => 3
 | 1 => 5
 | 2 => 2
 | 3 => 2
 | 4 => 6
 | 5 => 2
 | 6 => 8
 | 7 => 4
 | 8 => 7
 | 9 => 5
 | _ => 0
instance uni : Uni where
 N := NT
 sz := NS
 enc := NE
 one := fun n x => by
  match n, x with
  | 0, x => rfl
  | 1, x => rfl
  | 2, x => rfl
  | 3, x => rfl
  | 4, x => rfl
  | 5, x => rfl
  | 6, x => rfl
  | 7, x => rfl
  | 8, x => rfl
  | 9, x => rfl
  | _ + 10, _ => rfl
 len := fun n x => by
  match n, x with
  | 0, x => rfl
  | 1, x => rfl
  | 2, x => rfl
  | 3, x => rfl
  | 4, x => rfl
  | 5, x => rfl
  | 6, x => rfl
  | 7, x => rfl
  | 8, x => rfl
  | 9, x => rfl
  | _ + 10, _ => rfl
 bare := fun n x => by
  match n, x with
  | 0, x => rfl
  | 1, x => rfl
  | 2, x => rfl
  | 3, x => rfl
  | 4, x => rfl
  | 5, x => rfl
  | 6, x => rfl
  | 7, x => rfl
  | 8, x => rfl
  | 9, x => rfl
  | _ + 10, _ => rfl
def NF : Nat → List Ty
 | 0 => [.int .i64, .str, .lst (.nm 0)]
 | 1 => [.int .i64, .nm 0, .str]
 | 2 => [.str, .lst (.nm 1)]
 | 3 => [.str, .lst (.nm 0)]
 | 4 => [.nm 0, .nm 0]
 | 5 => [.lst (.nm 0), .lst (.nm 4)]
 | 6 => [.int .i64, .int .i64, .int .i64, .nm 0, .lst (.nm 0), .int .i64]
 | 7 => [.int .i64, .int .i64, .lst (.int .i64), .lst (.nm 6)]
 | 8 => [.int .u64, .int .u64, .int .u64, .int .u64, .int .u64, .int .u64, .int .u64]
 | 9 => [.int .i64, .int .i64, .int .i64, .int .i64, .int .i64]
 | _ => []
def NM : (n : Nat) → ElT (NF n) → NT n
 | 0, x => Tm.mk x.1 x.2.1 x.2.2
 | 1, x => Cmd.mk x.1 x.2.1 x.2.2
 | 2, x => Blk.mk x.1 x.2
 | 3, x => Bnd.mk x.1 x.2
 | 4, x => Unq.mk x.1 x.2
 | 5, x => Cfg.mk x.1 x.2
 | 6, x => Edg.mk x.1 x.2.1 x.2.2.1 x.2.2.2.1 x.2.2.2.2.1 x.2.2.2.2.2
 | 7, x => Aut.mk x.1 x.2.1 x.2.2.1 x.2.2.2
 | 8, x => Bts.mk x.1 x.2.1 x.2.2.1 x.2.2.2.1 x.2.2.2.2.1 x.2.2.2.2.2.1 x.2.2.2.2.2.2
 | 9, x => Fiv.mk x.1 x.2.1 x.2.2.1 x.2.2.2.1 x.2.2.2.2
 | _ + 10, _ => ()
def NP : (n : Nat) → NT n → ElT (NF n)
 | 0, x => (Tm.kind x, Tm.text x, Tm.kids x)
 | 1, x => (Cmd.kind x, Cmd.sym x, Cmd.label x)
 | 2, x => (Blk.label x, Blk.cmds x)
 | 3, x => (Bnd.var x, Bnd.val x)
 | 4, x => (Unq.a x, Unq.b x)
 | 5, x => (Cfg.expr x, Cfg.apart x)
 | 6, x => (Edg.src x, Edg.dst x, Edg.kind x, Edg.sym x, Edg.exc x, Edg.inner x)
 | 7, x => (Aut.states x, Aut.start x, Aut.final x, Aut.edges x)
 | 8, x => (Bts.b0 x, Bts.b1 x, Bts.b2 x, Bts.b3 x, Bts.b4 x, Bts.b5 x, Bts.b6 x)
 | 9, x => (Fiv.k0 x, Fiv.k1 x, Fiv.k2 x, Fiv.k3 x, Fiv.k4 x)
 | _ + 10, _ => ()
theorem encE0 (x : Tm) : encE (.nm 0) x = encT x := (encT_eq x).symm
instance uni2 : Uni2 where
 flds := NF
 mkN := NM
 prjN := NP
 encOK := fun n x => by
  match n, x with
  | 0, x =>
    have h : (encE (.nm 0) : Tm → AV) = encT := funext encE0
    show encN0 x = [.int .i64 (Tm.kind x), .str (Tm.text x), .lst 3 ((Tm.kids x).map (encE (.nm 0) : Tm → AV)) .none]
    rw [h]; rfl
  | 1, x => rfl
  | 2, x => rfl
  | 3, x =>
    have h : (encE (.nm 0) : Tm → AV) = encT := funext encE0
    show encN3 x = [.str (Bnd.var x), .lst 3 ((Bnd.val x).map (encE (.nm 0) : Tm → AV)) .none]
    rw [h]; rfl
  | 4, x => rfl
  | 5, x =>
    have h : (encE (.nm 0) : Tm → AV) = encT := funext encE0
    show encN5 x = [.lst 3 ((Cfg.expr x).map (encE (.nm 0) : Tm → AV)) .none, .lst 6 ((Cfg.apart x).map fun c => .agg (encN4 c)) .none]
    rw [h]; rfl
  | 6, x =>
    have h : (encE (.nm 0) : Tm → AV) = encT := funext encE0
    show encN6 x = .int .i64 (Edg.src x) :: .int .i64 (Edg.dst x) :: .int .i64 (Edg.kind x) :: (encN0 (Edg.sym x) ++ [.lst 3 ((Edg.exc x).map (encE (.nm 0) : Tm → AV)) .none, .int .i64 (Edg.inner x)])
    rw [h]; rfl
  | 7, x => rfl
  | 8, x => rfl
  | 9, x => rfl
  | _ + 10, _ => rfl
 prjmk := fun n y => by
  match n, y with
  | 0, y => rfl
  | 1, y => rfl
  | 2, y => rfl
  | 3, y => rfl
  | 4, y => rfl
  | 5, y => rfl
  | 6, y => rfl
  | 7, y => rfl
  | 8, y => rfl
  | 9, y => rfl
  | _ + 10, _ => rfl
def ND : (n : Nat) → NT n
 | 0 => (default : Tm)
 | 1 => (default : Cmd)
 | 2 => (default : Blk)
 | 3 => (default : Bnd)
 | 4 => (default : Unq)
 | 5 => (default : Cfg)
 | 6 => (default : Edg)
 | 7 => (default : Aut)
 | 8 => (default : Bts)
 | 9 => (default : Fiv)
 | _ + 10 => ()
instance uni3 : Uni3 where
 dfl := ND
end Go.AL
namespace Go.AL
set_option linter.unusedVariables false
set_option linter.unusedSectionVars false
theorem ifB_of {e : Bool} {A B : Prop} (h1 : e = true → A) (h2 : e = false → B) : ifB e A B := by
 cases e
 ·exact h2 rfl
 ·exact h1 rfl
theorem ifD {p : Prop} [Decidable p] {A B : Prop} (h1 : p → A) (h2 : ¬ p → B) : ifB (decide p) A B := by
 by_cases h : p
 ·rw [decide_eq_true h]; exact h1 h
 ·rw [decide_eq_false h]; exact h2 h
theorem ifN {p : Prop} [Decidable p] {A B : Prop} (h1 : ¬ p → A) (h2 : p → B) : ifB (!decide p) A B := by
 by_cases h : p
 ·rw [decide_eq_true h]; exact h2 h
 ·rw [decide_eq_false h]; exact h1 h
@[simp] theorem ifB_true {A B : Prop} : ifB true A B = A := rfl
@[simp] theorem ifB_false {A B : Prop} : ifB false A B = B := rfl
theorem ifB_iff {e : Bool} {A B : Prop} : ifB e A B ↔ (e = true → A) ∧ (e = false → B) := by cases e <;> simp [ifB]
theorem size_zero {s : ByteArray} : s = ⟨#[]⟩ ↔ s.size = 0 := by
 cases s with | mk a => simp [ByteArray.size]
@[simp] theorem mk_empty : (⟨#[]⟩ : ByteArray) = ByteArray.empty := rfl
theorem size_pos {s : ByteArray} (h : ¬ s = ByteArray.empty) : 0 < s.size := by
 rcases Nat.eq_zero_or_pos s.size with h1 | h1
 ·exact absurd (size_zero.2 h1) h
 ·exact h1
theorem inR64 {x : Int} (h : -9223372036854775808 ≤ x ∧ x < 9223372036854775808) : inR .i64 x := h
theorem nth_drop {α : Type} {d : α} {l : List α} {i : Int} (h : i.toNat < l.length) : l.drop i.toNat = nth d l i :: l.drop (i.toNat + 1) := by
 rw [List.drop_eq_getElem_cons h]
 simp [nth, List.getD_eq_getElem?_getD, h]
theorem nth_get {α : Type} {d : α} {l : List α} {i : Int} (h : i.toNat < l.length) : nth d l i = l[i.toNat] := by
 simp [nth, List.getD_eq_getElem?_getD, h]
theorem nth_mem {α : Type} {d : α} {l : List α} {i : Int} (h : i.toNat < l.length) : nth d l i ∈ l := by
 rw [nth_get h]; exact List.getElem_mem h
theorem ite_brk {c : Prop} [Decidable c] {V R : Type} {x y : V} {r : R} (h : (if c then LOut.brk x else LOut.ret r) = LOut.brk y) : c ∧ x = y := by
 split at h
 ·simp at h; exact ⟨‹_›, h⟩
 ·cases h
theorem ite_ret {c : Prop} [Decidable c] {V R : Type} {x : V} {r q : R} (h : (if c then LOut.brk x else LOut.ret r) = LOut.ret q) : ¬ c ∧ r = q := by
 split at h
 ·cases h
 ·simp at h; exact ⟨‹_›, h⟩
theorem ite_brk' {c : Prop} [Decidable c] {V R : Type} {x y : V} {r : R} (h : (if c then LOut.ret r else LOut.brk x) = LOut.brk y) : ¬ c ∧ x = y := by
 split at h
 ·cases h
 ·simp at h; exact ⟨‹_›, h⟩
theorem ite_ret' {c : Prop} [Decidable c] {V R : Type} {x : V} {r q : R} (h : (if c then LOut.ret r else LOut.brk x) = LOut.ret q) : c ∧ r = q := by
 split at h
 ·simp at h; exact ⟨‹_›, h⟩
 ·cases h
end Go.AL
