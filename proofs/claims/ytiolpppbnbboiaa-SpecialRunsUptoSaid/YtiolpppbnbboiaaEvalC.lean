/- Ranges over functions, contracts, the structs of the program, two functions by hand. -/
import Derived.Test.YtiolpppbnbboiaaEvalB

namespace Go.AL
open Go.RowKit
set_option linter.unusedVariables false
set_option linter.unusedSimpArgs false
set_option linter.unusedSectionVars false

section
variable [Uni3] {P : Program} {W : World} {fr0 fr1 : F0} {w w' : Wd} {st : St} {σ σ' τ : AH} {ds : List Nat} {aenv : Env}

/-- The round's record turns. -/
theorem HR.swap {l : Nat} {o o' : AObj} (h : HR P W fr0 w st σ ds) (hl : fr0.lo = some (l, o)) (ho : o'.isLoop = true) : HR P W { base := fr0.base, lo := some (l, o') } w st (σ.put l o') ds := by
  obtain ⟨h1, h2, h3⟩ := h.lrec l o hl
  have ne : ∀ c x, σ c = some x → x.isLoop = false → c ≠ l := fun c x hc hx => by
    rintro rfl; rw [h1] at hc; cases hc; rw [h3] at hx; cases hx
  refine ⟨fun c x hc => ?_, h.base, fun x o2 hx => ?_, h.hlt, h.hfr, h.inj, h.llt, fun i hi => ?_, h.lfr, h.dist, h.nd, fun b hb => ⟨?_, (h.mrk b hb).2⟩, fun l2 o2 hl2 => ?_⟩
  · have : c ≠ l := by rintro rfl; rw [h2] at hc; cases hc
    rw [AH.put_ne _ _ this]; exact h.fr c x hc
  · obtain ⟨ao, k1, k2⟩ := h.obj x o2 hx
    refine ⟨ao, ?_, k2⟩
    rw [AH.put_ne]; exact k1
    refine ne _ _ k1 ?_
    exact mine_isLoop k2.mine
  · have hlv := h.live i hi
    cases ht : w.tk i with
    | none => rw [ht] at hlv; exact hlv
    | clip => trivial
    | own b e lim =>
      rw [ht] at hlv
      show (σ.put l o') b = _
      rw [AH.put_ne]; exact hlv
      exact ne _ _ hlv rfl
  · rw [AH.put_ne]; exact (h.mrk b hb).1
    exact ne _ _ (h.mrk b hb).1 rfl
  · cases hl2
    exact ⟨AH.put_same _ _ _, h2, ho⟩

/-- The round's record goes. -/
theorem HR.unlo {l : Nat} {o : AObj} {ds' : List Nat} (h : HR P W fr0 w st σ ds) (hl : fr0.lo = some (l, o)) (hd : ds'.Nodup ∧ ∀ b ∈ ds', σ b = some .marks ∧ fr0.base b = none) : HR P W { base := fr0.base, lo := none } w st (σ.del l) ds' := by
  obtain ⟨h1, h2, h3⟩ := h.lrec l o hl
  have keep : ∀ c x, σ c = some x → x.isLoop = false → (σ.del l) c = some x := fun c x hc hx => by
    have : c ≠ l := by rintro rfl; rw [h1] at hc; cases hc; rw [h3] at hx; cases hx
    simp only [AH.del, this, if_false]; exact hc
  refine ⟨fun c x hc => ?_, h.base, fun x o2 hx => ?_, h.hlt, h.hfr, h.inj, h.llt, fun i hi => ?_, h.lfr, h.dist, hd.1, fun b hb => ⟨keep _ _ (hd.2 b hb).1 rfl, (hd.2 b hb).2⟩, fun l2 o2 hl2 => by cases hl2⟩
  · have : c ≠ l := by rintro rfl; rw [h2] at hc; cases hc
    simp only [AH.del, this, if_false]; exact h.fr c x hc
  · obtain ⟨ao, k1, k2⟩ := h.obj x o2 hx
    refine ⟨ao, keep _ _ k1 ?_, k2⟩
    exact mine_isLoop k2.mine
  · have hlv := h.live i hi
    cases ht : w.tk i with
    | none => rw [ht] at hlv; exact hlv
    | clip => trivial
    | own b e lim => rw [ht] at hlv; exact keep _ _ hlv rfl

/-- More is left as it is. -/
theorem HR.upfr {F : AH} (h : HR P W fr0 w st σ ds) (hF : F.le σ) (hle : w.fr.le F) (hn : ∀ c, F c ≠ none → w.fr c = none → (∀ x o, hlk st.hp x = some o → w.ρ x ≠ c) ∧ (∀ i ∈ st.live, (w.tk i).isOn c = false) ∧ (∀ o, fr0.lo ≠ some (c, o))) :
    HR P W fr0 { w with fr := F } st σ ds := by
  have hw : Wd.le st.nx w { w with fr := F } := ⟨fun _ _ => rfl, fun _ _ => rfl, rfl, hle⟩
  refine ⟨hF, AH.le_trans h.base hle, fun x o hx => ?_, h.hlt, fun x o hx => ?_, h.inj, h.llt, h.live, fun i hi c hc => ?_, h.dist, h.nd, h.mrk, fun l o hl => ⟨(h.lrec l o hl).1, ?_, (h.lrec l o hl).2.2⟩⟩
  · obtain ⟨ao, k1, k2⟩ := h.obj x o hx
    exact ⟨ao, k1, k2.mono hw (Nat.le_refl _)⟩
  · cases hx2 : F (w.ρ x) with
    | none => exact hx2
    | some y => exact absurd rfl ((hn _ (by rw [hx2]; simp) (h.hfr x o hx)).1 x o hx)
  · cases hx2 : F c with
    | none => exact hx2
    | some y =>
      have := (hn c (by rw [hx2]; simp) (h.lfr i hi c hc)).2.1 i hi
      rw [hc] at this; cases this
  · cases hx2 : F l with
    | none => exact hx2
    | some y => exact absurd hl ((hn l (by rw [hx2]; simp) (h.lrec l o hl).2.1).2.2 o)

theorem LDec.env0 {d : LD} {s : ElT d.vts} {live : List Nat} {as : List AV} {aenv' : Env} (h : LDec P W d w st σ aenv s live as) (hv : d.vs = []) : LDec P W d w st σ aenv' s live as :=
  ⟨h.len, fun i t ht => by rw [hv] at ht; simp at ht, h.enc, h.toks, h.vlen, h.obj, h.here⟩

theorem LDec.grow {d : LD} {s : ElT d.vts} {live : List Nat} {as : List AV} (h : LDec P W d w st σ aenv s live as) (hle : ∀ c (o : AObj), o.mine = true → σ c = some o → σ' c = some o) : LDec P W d w st σ' aenv s live as := by
  refine ⟨h.len, h.env, h.enc, h.toks, h.vlen, fun w' nx' vals h1 h2 h3 p hp => ?_, h.here⟩
  obtain ⟨k1, k2, ao, k3, k4⟩ := h.obj w' nx' vals h1 h2 h3 p hp
  refine ⟨k1, k2, ao, ?_, k4⟩
  exact hle _ _ k4.mine k3

theorem resV_env {st st' : St} (hh : st'.hp = st.hp) : ∀ {rvs : List RV} {vs : List VV}, (∀ r ∈ rvs, match r with | .t n => lk st'.env n = nocnd (lk st.env n) | .cell n _ _ => lk st'.env n = nocnd (lk st.env n)) → resV st rvs = some vs → resV st' rvs = some vs
  | [], vs, _, h => h
  | .t n :: r, vs, he, h => by
    have h1 := he (.t n) (by simp)
    simp only at h1
    simp only [resV] at h ⊢
    split at h
    · rename_i l hl
      rw [resV_env hh (fun r hr => he r (by simp [hr])) hl, h1]
      have : ∀ v : VV, nocnd (nocnd v) = nocnd v := by intro v; cases v <;> rfl
      simp only [this]; exact h
    · cases h
  | .cell n g sz :: r, vs, he, h => by
    have h1 := he (.cell n g sz) (by simp)
    simp only at h1
    simp only [resV] at h ⊢
    rw [h1]
    split at h
    · rename_i hd o hlk1
      rw [hlk1]
      simp only [nocnd, hh]
      split at h
      · rename_i k2 vs2 hvs
        split at h
        · rename_i hk2
          rw [if_pos hk2]
          split at h
          · rename_i l hl
            simp only [resV_env hh (fun r hr => he r (by simp [hr])) hl]
            exact h
          · cases h
        · cases h
      · cases h
    · cases h

theorem HR.ds0 (h : HR P W fr0 w st σ ds) : HR P W fr0 w st σ [] := ⟨h.fr, h.base, h.obj, h.hlt, h.hfr, h.inj, h.llt, h.live, h.lfr, h.dist, List.nodup_nil, fun b hb => (by cases hb), h.lrec⟩

theorem lk_map (f : Nat → VV) : ∀ (l : List Nat) (n : Nat), n ∈ l → lk (l.map fun t => (t, f t)) n = f n
  | [], n, h => by cases h
  | t :: l, n, h => by
    simp only [List.map_cons, lk]
    split
    · rename_i ht; rw [ht]
    · rename_i ht
      rcases List.mem_cons.1 h with h1 | h1
      · exact absurd h1.symm ht
      · exact lk_map f l n h1
end
end Go.AL

namespace Go.AL
open Go.RowKit
set_option linter.unusedVariables false
set_option linter.unusedSimpArgs false
set_option linter.unusedSectionVars false

section
variable [Uni3] {P : Program} {W : World} {fr0 : F0} {Γ : Ctx} {rvs : List RV} {rts : List Ty} {Λ : Nat → Option (Loop (ElT rts))} {Λr : Nat → Option (RLoop (ElT rts))} {n : Nat}

theorem toVV_cnd (t : Ty) (x : El t) : (toVV t x).isCnd = false := by cases t <;> rfl

theorem CodeOK.rangeF (hΓ : CtxOK P W Γ) (hlo : fr0.lo = none) {Q : Out → Env → AH → List Nat → Prop} (id : Nat) (z : AX) (ps : List Nat) (asg body : AC) : CodeOK P W fr0 Γ rvs rts Λ Λr n true none Q (.block id (.rangeF z ps asg body)) := by
  intro ro st kn kx kR h w aenv σ ds K hs hn hx hr
  simp only [wpE] at h
  cases hΛ : Λr id with
  | none => simp [hΛ] at h
  | some lp => ?_
  cases hz : evX st.env [] z <;> simp only [hΛ, hz] at h <;> first | exact h.elim | skip
  rename_i t xs
  split at h
  case isFalse => exact h.elim
  rename_i ht
  subst ht
  split at h
  case isFalse => exact h.elim
  rename_i hchk
  obtain ⟨hchk, hvs, hps, hret1⟩ := hchk
  obtain ⟨hd, hnx, hpts, hroS⟩ := LD.chk_spec hchk
  split at h
  case h_2 => exact h.elim
  rename_i c s live p hc hdec
  simp only at h
  obtain ⟨hinv, hnil, hstep, hends⟩ := h
  rw [endsP_iff (fun he => by rw [he, allT_iff]; exact fun _ => trivial)] at hends
  obtain ⟨hbrk, hext, hretE⟩ := hends
  simp only [loopP, allT_iff] at hnil hstep hbrk hext hretE
  -- the state read off
  obtain ⟨as, hL⟩ := LD.dec_rel hdec hs.1 hs.2
  have hC := LD.decC_rel hc hs.1
  have hP0 : ∀ p ∈ lp.pts, VRel P W w st.nx p.2 (aenv.get p.1) := fun p hp => by
    have h1 := hs.1 p.1
    rw [sameV_eq _ _ (hpts p hp)] at h1
    exact (SR_plain (hOk_cnd (hd.pts p hp).1)).1 h1
  have rz := evX_rel hs.1 (gs := []) (fun g hg => by cases hg) z
  rw [hz] at rz
  simp only [VRel] at rz
  obtain ⟨fz, hfz, g, first, cap, hzv, hiter⟩ := rz
  let R0 : AH := lp.rest fr0 w σ as
  have hR0σ : R0.le σ := LD.rest_le
  have hwR0 : w.fr.le R0 := hL.fr_le hs.2
  refine AW.block (AW.rangeF hzv fun b l hb hl hlb σ1 hσ1b hσ1 hloop hps1 => ?_)
  obtain ⟨fn, ra, rb, df, dl, hrec0, hca, hcb⟩ := hloop
  let rec_ : LoopState → Option Code → AObj := fun stt pend => .loop stt pend fn n aenv [p] ra rb df
  have hσσ1 : σ.le σ1 := fun c' o ho => by
    rw [hσ1 c' (by rintro rfl; rw [hb] at ho; cases ho) (by rintro rfl; rw [hl] at ho; cases ho)]; exact ho
  have hR0b : R0 b = none := AH.none_le hR0σ hb
  have hR0l : R0 l = none := AH.none_le hR0σ hl
  have hbase : fr0.base.le R0 := AH.le_trans hs.2.base hwR0
  have hbn : fr0.base b = none := AH.none_le hbase hR0b
  let DD : ElT lp.vts → AH → Prop := fun s' τ => ∃ (st' : St) (w' : Wd) (as' : List AV) (l' : List Nat), LDec P W lp.toLD w' st' τ aenv s' l' as' ∧ (∀ h, h < lp.nx → w'.ρ h = w.ρ h) ∧ (∀ i, lp.own.getD i false = true → Live τ (avTok (as'.getD i .any))) ∧
        (∀ i, lp.own.getD i false = true → ∀ c', (avTok (as'.getD i .any)).isOn c' = true → R0 c' = none)
  let J : Nat → AH → AH → Prop := fun k I τ => I.le τ ∧ τ l = some (rec_ .ready none) ∧ ∃ (s' : ElT lp.vts) (w2 : Wd), R0.le w2.fr ∧ w2.fr b = some .marks ∧ I.le w2.fr ∧ (∀ h, h < lp.nx → w2.ρ h = w.ρ h) ∧
    lp.inv c (xs.drop k) s' ∧ lp.out c (xs.drop k) s' = lp.out c xs s ∧ ER P W w2 (lp.body c s').nx (lp.body c s').env aenv ∧ HR P W { base := fr0.base, lo := some (l, rec_ .ready none) } w2 (lp.body c s') τ [] ∧ DD s' τ
  let E : AH → AH → Prop := fun I τ => I.le τ ∧ τ b = some .marks ∧ R0.le τ ∧ ∃ pc, τ l = some (rec_ .done (some pc)) ∧
    ((∃ (i : Nat) (s' : ElT lp.vts), pc = .exit i ∧ DD s' τ ∧ ((i = id ∧ lp.out c xs s = .brk s') ∨ (lp.exts.contains i = true ∧ i ≠ id ∧ lp.out c xs s = .ext i s'))) ∨
     (∃ (r : ElT rts) (st' : St) (w' : Wd), pc = .ret ∧ lp.rets = true ∧ lp.out c xs s = .ret r ∧ resT rvs rts st' = some r ∧ R0.le w'.fr ∧ w'.fr b = some .marks ∧ ER P W w' st'.nx st'.env aenv ∧ HR P W { base := fr0.base, lo := some (l, rec_ .done (some .ret)) } w' st' τ []))
  have hend := hiter J E (.fn (.yield l) [] []) σ1 ⟨_, _, _, rfl⟩ (fun k I τ h => h.1) ?_ (fun k I τ I' hJ hI => ?_) (fun I τ τ' hE hle => ?_) (fun I τ I' hE hI => ⟨AH.le_trans hI hE.1, hE.2⟩) ?_ ?_
  · -- behind
    refine hend.mono fun v τ hτ => ?_
    have finish : ∀ (s' : ElT lp.vts) (o : AObj), τ l = some o → o.isLoop = true → τ b = some .marks → R0.le τ → DD s' τ →
        ∃ w3, StR P W fr0 w3 (lp.after st live s') aenv (τ.del l) (b :: ds) ∧ Later ro st (lp.after st live s') w w3 aenv aenv := by
      intro s' o ho hol hmb hR0τ ⟨st', w', as', l', hL', hρ, hlv, hon⟩
      have ne : ∀ c' x, τ c' = some x → x.isLoop = false → (τ.del l) c' = some x := fun c' x hc' hx' => by
        have : c' ≠ l := by rintro rfl; rw [ho] at hc'; cases hc'; rw [hol] at hx'; cases hx'
        simp only [AH.del, this, if_false]; exact hc'
      obtain ⟨w3, k1, k2, k3⟩ := LD.after_gen (σ' := τ.del l) (ds' := b :: ds) hd hs.2 hs.1 hL (hL'.grow fun c' o' hm' hc' => ne c' _ hc' (mine_isLoop hm')) hρ (fun c' x hc' => by
          have : c' ≠ l := by rintro rfl; rw [show lp.rest fr0 w σ as c' = none from hR0l] at hc'; cases hc'
          simp only [AH.del, this, if_false]; exact hR0τ c' x hc') hnx (fun _ _ => rfl) (fun i hi => by
          have := hlv i hi
          cases ht : avTok (as'.getD i .any) with
          | none => rw [ht] at this; exact this
          | clip => trivial
          | own b' e lim => rw [ht] at this; exact ne _ _ this rfl) hon ⟨List.nodup_cons.2 ⟨fun hm => (by rw [(hs.2.mrk b hm).1] at hb; cases hb), hs.2.nd⟩, fun b' hb' => by
            rcases List.mem_cons.1 hb' with rfl | hb'
            · exact ⟨ne _ _ hmb rfl, hbn⟩
            · have hm := hs.2.mrk b' hb'
              refine ⟨ne _ _ (hR0τ _ _ (LD.rest_eq hm.1 (fun h hh => ?_) (fun i hi hl' hon' => ?_) (fun o' ho' => by rw [hlo] at ho'; cases ho'))) rfl, hm.2⟩
              · rintro rfl
                obtain ⟨vs, hv⟩ := hL.here h hh
                obtain ⟨ao2, h2, h2'⟩ := hs.2.obj _ _ hv
                rw [hm.1] at h2; cases h2; cases h2'.mine
              · rcases hL.toks.src i hi hl' with h1 | ⟨id', h1, h3, h2⟩
                · rw [h1] at hon'; cases hon'
                · rw [h2] at hon'
                  have hlv2 := hs.2.live id' h1
                  cases hy : w.tk id' with
                  | none => rw [hy] at hon'; cases hon'
                  | clip => rw [hy] at hon'; cases hon'
                  | own b2 e lim =>
                    rw [hy] at hlv2 hon'
                    simp only [Tok.isOn, beq_iff_eq] at hon'
                    subst hon'
                    rw [show σ b2 = some (.row e lim) from hlv2] at hm; cases hm.1⟩ (fun l' o' hl' => by rw [hlo] at hl'; cases hl')
      exact ⟨w3, ⟨k2, k3⟩, k1, by simp only [LD.after]; omega, fun _ _ => rfl⟩
    rcases hτ with ⟨_, hrec, s', w2, h1, h2, h3, h4, h5, h6, h7, h8, h9⟩ | ⟨_, hmb, hR0τ, pc, hrec, hor⟩
    · -- all were taken
      simp only [afterRange, hrec, rec_]
      refine ⟨by simp, ?_⟩
      rw [List.length_map, List.drop_length] at h5 h6
      have hout : lp.out c xs s = .brk s' := by rw [← h6]; exact hnil c s' h5
      obtain ⟨w3, k1, k2⟩ := finish s' _ hrec rfl (h8.fr _ _ h2) (AH.le_trans h1 h8.fr) h9
      exact AW.blk (hn _ _ _ _ _ (hbrk s' hout) k1 k2)
    · rcases hor with ⟨i, s', rfl, hDD, hout⟩ | ⟨r, st', w', rfl, hrt, hout, hres, h1, h2, h3, h4⟩
      · simp only [afterRange, hrec, rec_]
        refine ⟨by simp, ?_⟩
        obtain ⟨w3, k1, k2⟩ := finish s' _ hrec rfl hmb hR0τ hDD
        rcases hout with ⟨rfl, hout⟩ | ⟨hmem, hne, hout⟩
        · exact AW.exit (by simp [exitA]) (hn _ _ _ _ _ (hbrk s' hout) k1 k2)
        · have hk : kx i (lp.after st live s') := extAll_iff.1 (hext s') i (by simpa using hmem) hout
          exact ((hx i _ _ _ _ _ hk k1 k2).skip (x := .blk id) (by simp [exitA, Ne.symm hne])).aw
      · simp only [afterRange, hrec, rec_]
        refine ⟨by simp, ?_⟩
        have hmk : ∀ b' ∈ b :: ds, τ b' = some .marks ∧ fr0.base b' = none := fun b' hb' => by
          rcases List.mem_cons.1 hb' with rfl | hb'
          · exact ⟨hmb, hbn⟩
          · have hm := hs.2.mrk b' hb'
            refine ⟨hR0τ _ _ (LD.rest_eq hm.1 (fun h hh => ?_) (fun i hi hl' hon' => ?_) (fun o' ho' => by rw [hlo] at ho'; cases ho')), hm.2⟩
            · rintro rfl
              obtain ⟨vs, hv⟩ := hL.here h hh
              obtain ⟨ao2, h2, h2'⟩ := hs.2.obj _ _ hv
              rw [hm.1] at h2; cases h2; cases h2'.mine
            · rcases hL.toks.src i hi hl' with h1 | ⟨id', h1, h3, h2⟩
              · rw [h1] at hon'; cases hon'
              · rw [h2] at hon'
                have hlv2 := hs.2.live id' h1
                cases hy : w.tk id' with
                | none => rw [hy] at hon'; cases hon'
                | clip => rw [hy] at hon'; cases hon'
                | own b2 e lim =>
                  rw [hy] at hlv2 hon'
                  simp only [Tok.isOn, beq_iff_eq] at hon'
                  subst hon'
                  rw [show σ b2 = some (.row e lim) from hlv2] at hm; cases hm.1
        have hfin := h4.unlo rfl (ds' := b :: ds) ⟨List.nodup_cons.2 ⟨fun hm => (by rw [(hs.2.mrk b hm).1] at hb; cases hb), hs.2.nd⟩, hmk⟩
        have e0 : ({ base := fr0.base, lo := none } : F0) = fr0 := by cases fr0; simp only at hlo; subst hlo; rfl
        rw [e0] at hfin
        exact AW.ret (hr r st' w' aenv (τ.del l) (b :: ds) (hretE hrt r hout) hres ⟨h3, hfin⟩ (AH.le_trans hwR0 h1) fun _ _ => rfl)
  · -- more heap, more to be left
    intro k I τ I' τ' ⟨_, hrec, s', w2, h1, h2, h3, h4, h5, h6, h7, h8, h9⟩ hτ hI hI' hnew
    let F : AH := fun c' => match I' c' with
      | some o => some o
      | none => w2.fr c'
    have h8' := h8.grow hτ
    have hFτ : F.le τ' := fun c' o hc' => by
      simp only [F] at hc'
      split at hc'
      · rename_i o' ho'; cases hc'; exact hI' _ _ ho'
      · exact h8'.fr _ _ hc'
    have hle : w2.fr.le F := fun c' o hc' => by
      simp only [F]
      split
      · rename_i o' ho'
        have e1 := hI' _ _ ho'; have e2 := h8'.fr _ _ hc'
        rw [e1] at e2; exact e2
      · exact hc'
    have hup := h8'.upfr hFτ hle (fun c' hc' hw' => by
      have hI'c : I' c' ≠ none := by
        intro hz; simp only [F, hz] at hc'; exact hc' hw'
      have hIc : I c' = none := AH.none_le h3 hw'
      have hτc := hnew c' hI'c hIc
      refine ⟨fun x o hx => ?_, fun i hi => ?_, fun o ho => ?_⟩
      · rintro rfl
        obtain ⟨ao, e1, _⟩ := h8.obj x o hx
        rw [e1] at hτc; cases hτc
      · have hlv := h8.live i hi
        cases ht : w2.tk i with
        | none => rfl
        | clip => rfl
        | own b2 e lim =>
          rw [ht] at hlv
          cases hx : (Tok.own b2 e lim).isOn c' with
          | false => rfl
          | true =>
            simp only [Tok.isOn, beq_iff_eq] at hx
            subst hx
            rw [show τ b2 = some (.row e lim) from hlv] at hτc; cases hτc
      · rw [(h8.lrec c' o ho).1] at hτc; cases hτc)
    refine ⟨hI', hτ _ _ hrec, s', { w2 with fr := F }, AH.le_trans h1 hle, hle _ _ h2, fun c' o hc' => by simp only [F, hc'], h4, h5, h6, h7.mono ⟨fun _ _ => rfl, fun _ _ => rfl, rfl, hle⟩ (Nat.le_refl _), hup, ?_⟩
    obtain ⟨st', w', as', l', e1, e2, e3, e4⟩ := h9
    exact ⟨st', w', as', l', e1.grow fun c' o' _ hc' => hτ _ _ hc', e2, fun i hi => (e3 i hi).mono hτ, e4⟩
  · obtain ⟨h0, hrec, s', w2, h1, h2, h3, h4⟩ := hJ
    exact ⟨AH.le_trans hI h0, hrec, s', w2, h1, h2, AH.le_trans hI h3, h4⟩
  · obtain ⟨h0, h1, h2, pc, h3, h4⟩ := hE
    refine ⟨AH.le_trans h0 hle, hle _ _ h1, AH.le_trans h2 hle, pc, hle _ _ h3, ?_⟩
    rcases h4 with ⟨i, s', rfl, ⟨st', w', as', l', e1, e2, e3, e4⟩, h5⟩ | ⟨r, st', w', rfl, k1, k2, k3, k4, k5, k6, k7⟩
    · exact .inl ⟨i, s', rfl, ⟨st', w', as', l', e1.grow fun c' o' _ hc' => hle _ _ hc', e2, fun i hi => (e3 i hi).mono hle, e4⟩, h5⟩
    · exact .inr ⟨r, st', w', rfl, k1, k2, k3, k4, k5, k6, k7.grow hle⟩
  · -- at the start
    have hs1 := hs.2.grow hσσ1
    have hHR : HR P W { base := fr0.base, lo := some (l, rec_ .ready none) } w st σ1 [] := ⟨hs1.fr, hs1.base, hs1.obj, hs1.hlt, hs1.hfr, hs1.inj, hs1.llt, hs1.live, hs1.lfr, hs1.dist, List.nodup_nil, fun b hb => (by cases hb), fun l2 o2 hl2 => by
      cases hl2; exact ⟨hrec0, AH.none_le hs.2.fr hl, rfl⟩⟩
    have hL1 : LDec P W lp.toLD w st σ1 aenv s live as := hL.grow fun c' o' _ hc' => hσσ1 _ _ hc'
    let F : AH := R0.put b .marks
    have hF : F.le (lp.rest { base := fr0.base, lo := some (l, rec_ .ready none) } w σ1 as) := fun c' o hc' => by
      by_cases hcb : c' = b
      · subst hcb
        simp only [F, AH.put_same] at hc'; cases hc'
        refine LD.rest_eq hσ1b (fun h hh => ?_) (fun i hi hl' hon' => ?_) (fun o' ho' => ?_)
        · rintro rfl
          obtain ⟨vs, hv⟩ := hL.here h hh
          obtain ⟨ao2, h2, h2'⟩ := hs.2.obj _ _ hv
          rw [hb] at h2; cases h2
        · rcases hL.toks.src i hi hl' with h1 | ⟨id', h1, h3, h2⟩
          · rw [h1] at hon'; cases hon'
          · rw [h2] at hon'
            have hlv2 := hs.2.live id' h1
            cases hy : w.tk id' with
            | none => rw [hy] at hon'; cases hon'
            | clip => rw [hy] at hon'; cases hon'
            | own b2 e lim =>
              rw [hy] at hlv2 hon'
              simp only [Tok.isOn, beq_iff_eq] at hon'
              subst hon'
              rw [show σ b2 = some (.row e lim) from hlv2] at hb; cases hb
        · cases ho'; exact hlb rfl
      · simp only [F, AH.put_ne _ _ hcb] at hc'
        have hc2 : (lp.rest fr0 w σ as) c' = some o := hc'
        have hne : c' ≠ l := by rintro rfl; rw [show lp.rest fr0 w σ as c' = none from hR0l] at hc2; cases hc2
        simp only [LD.rest] at hc2
        split at hc2
        · cases hc2
        · rename_i hn'
          exact LD.rest_eq (hσσ1 _ _ hc2) (fun h hh he => hn' (.inl ⟨h, hh, he⟩)) (fun i hi hl' hon' => hn' (.inr (.inl ⟨i, hi, hl', hon'⟩))) (fun o' ho' => by cases ho'; exact hne rfl)
    have hR0F : R0.le F := fun c' o hc' => by
      have : c' ≠ b := by rintro rfl; rw [hR0b] at hc'; cases hc'
      simp only [F, AH.put_ne _ _ this]; exact hc'
    have hP : ∀ p ∈ lp.pts, VRel P W w (max st.nx lp.nx) p.2 (aenv.get p.1) := fun p hp => (hP0 p hp).mono (Wd.le_refl _ _) (by omega)
    obtain ⟨w2, k1, k2, k3, k4, k5⟩ := LD.canon hd hHR hL1 hC hP hF (AH.le_trans hbase hR0F)
    refine ⟨AH.le_trans hfz (AH.le_trans hs.2.fr hσσ1), hrec0, s, w2, by rw [k2]; exact hR0F, by rw [k2]; exact AH.put_same _ _ _, by rw [k2]; exact AH.le_trans hfz (AH.le_trans hwR0 hR0F), fun h _ => by rw [k1], hinv, rfl, k4, k5, st, w, as, live, hL1, fun _ _ => rfl, fun i hi => ?_, fun i hi c' hc' => ?_⟩
    · have hlt : i < as.length := by
        rw [hL.len, ← hd.own]
        rcases Nat.lt_or_ge i lp.own.length with h1 | h1
        · exact h1
        · simp [List.getD_eq_getElem?_getD, List.getElem?_eq_none h1] at hi
      rcases hL.toks.src i hi hlt with h9 | ⟨id', h9, _, h10⟩
      · rw [h9]; trivial
      · rw [h10]; exact hs1.live id' h9
    · have hlt : i < as.length := by
        rw [hL.len, ← hd.own]
        rcases Nat.lt_or_ge i lp.own.length with h1 | h1
        · exact h1
        · simp [List.getD_eq_getElem?_getD, List.getElem?_eq_none h1] at hi
      simp only [R0, LD.rest]
      rw [if_pos (.inr (.inl ⟨i, hi, hlt, hc'⟩))]
  · -- a round
    intro k x I τ hx ⟨hIτ, hrec, s', w2, h1, h2, h3, h4, h5, h6, h7, h8, h9⟩
    rw [List.getElem?_map] at hx
    cases hy : xs[k]? with
    | none => rw [hy] at hx; cases hx
    | some y =>
    rw [hy] at hx
    simp only [Option.map_some, Option.some.injEq] at hx
    subst hx
    have hk : k < xs.length := by
      rcases Nat.lt_or_ge k xs.length with h | h
      · exact h
      · rw [List.getElem?_eq_none h] at hy; cases hy
    have hdrop : xs.drop k = y :: xs.drop (k + 1) := by
      rw [List.drop_eq_getElem_cons hk]
      rw [List.getElem?_eq_getElem hk] at hy; cases hy; rfl
    rw [hdrop] at h5 h6
    show AYield P W l [encE lp.t y] τ _
    refine ayield_of (ps := [p]) (asg := asg) (body := body) ⟨fn, ra, rb, df, dl, hrec, hca, hcb⟩ hps1 rfl ?_
    have hpro : p ∉ lp.ro := by simpa using hps
    have hyv : VRel P W w2 (lp.body c s').nx (toVV lp.t y) (encE lp.t y) := toVV_rel (encE_bare _ _)
    have hst1 : StR P W { base := fr0.base, lo := some (l, rec_ .ready none) } w2 { (lp.body c s') with env := put (lp.body c s').env (some p) (toVV lp.t y) } (aenv.puts [p] [encE lp.t y]) τ [] := ⟨h7.put (d := some p) hyv, h8.withEnv _⟩
    have hro1 : ∀ t ∈ lp.ro, (aenv.puts [p] [encE lp.t y]).get t = aenv.get t := fun t ht => Env.get_put_ne _ _ (by rintro rfl; exact hpro ht)
    refine wpE_round hΓ asg lp.ro _ _ _ _ (hstep c y (xs.drop (k + 1)) s' h5) w2 _ τ [] [.bgn, .c body] hst1 (fun st2 w3 aenv3 τ3 ds3 hk2 hS hLt => ?_) (fun i st2 w3 aenv3 τ3 ds3 hk2 => hk2.elim) (fun r st2 w3 aenv3 τ3 ds3 hk2 => hk2.elim)
    have hl3 := (hS.2.lrec l _ rfl).1
    refine AW.bgn hl3 ?_
    have e3 : AL.setLoop τ3 l .busy none = τ3.put l (rec_ .busy none) := by simp [AL.setLoop, hl3, rec_]
    rw [e3]
    have hS2 := hS.2.swap (o' := rec_ .busy none) rfl rfl
    have hnx2 : lp.nx ≤ st2.nx := by have := hLt.nx; simp only [LD.body] at this; omega
    -- what holds at the round's end
    have common : ∀ (st' : St) (w' : Wd) (aenv' : Env) (τ' : AH) (ds' : List Nat), StR P W { base := fr0.base, lo := some (l, rec_ .busy none) } w' st' aenv' τ' ds' → Later lp.ro st2 st' w3 w' aenv3 aenv' →
        τ' l = some (rec_ .busy none) ∧ R0.le w'.fr ∧ w'.fr b = some .marks ∧ I.le w'.fr ∧ (∀ h, h < lp.nx → w'.ρ h = w.ρ h) ∧ (∀ t ∈ lp.ro, aenv'.get t = aenv.get t) ∧ w'.fr l = none ∧
        (∀ s'' l', lp.dec st' = some (s'', l') → (∃ as', LDec P W lp.toLD w' st' τ' aenv s'' l' as') ∧ ∀ o, DD s'' (τ'.put l o)) := by
      intro st' w' aenv' τ' ds' hS' hLt'
      obtain ⟨g1, g2, g3⟩ := hS'.2.lrec l _ rfl
      have gR : R0.le w'.fr := AH.le_trans h1 (AH.le_trans hLt.le.fr hLt'.le.fr)
      have gρ : ∀ h, h < lp.nx → w'.ρ h = w.ρ h := fun h hh => (hLt'.le.ρ h (by omega)).trans ((hLt.le.ρ h (by simp only [LD.body]; omega)).trans (h4 h hh))
      refine ⟨g1, gR, hLt'.le.fr _ _ (hLt.le.fr _ _ h2), AH.le_trans h3 (AH.le_trans hLt.le.fr hLt'.le.fr), gρ, fun t ht => (hLt'.ro t ht).trans ((hLt.ro t ht).trans (hro1 t ht)), g2, fun s'' l' hd' => ?_⟩
      obtain ⟨as', hL'⟩ := LD.dec_rel hd' hS'.1 hS'.2
      have hL0 := hL'.env0 (aenv' := aenv) hvs
      have ne : ∀ c' x, τ' c' = some x → x.isLoop = false → c' ≠ l := fun c' x hc' hx' => by
        rintro rfl; rw [g1] at hc'; cases hc'; cases hx'
      have hlt : ∀ i, lp.own.getD i false = true → i < as'.length := fun i hi => by
        rw [hL'.len, ← hd.own]
        rcases Nat.lt_or_ge i lp.own.length with h1 | h1
        · exact h1
        · simp [List.getD_eq_getElem?_getD, List.getElem?_eq_none h1] at hi
      refine ⟨⟨as', hL0⟩, fun o => ⟨st', w', as', l', hL0.grow fun c' o' hm' hc' => by rw [AH.put_ne _ _ (ne _ _ hc' (mine_isLoop hm'))]; exact hc', gρ, fun i hi => ?_, fun i hi c' hc' => ?_⟩⟩
      · rcases hL'.toks.src i hi (hlt i hi) with h9 | ⟨id', h9, _, h10⟩
        · rw [h9]; trivial
        · rw [h10]
          have hlv := hS'.2.live id' h9
          cases hy2 : w'.tk id' with
          | none => rw [hy2] at hlv; exact hlv
          | clip => trivial
          | own b2 e lim =>
            rw [hy2] at hlv
            show (τ'.put l o) b2 = _
            rw [AH.put_ne _ _ (ne _ _ hlv rfl)]; exact hlv
      · rcases hL'.toks.src i hi (hlt i hi) with h9 | ⟨id', h9, _, h10⟩
        · rw [h9] at hc'; cases hc'
        · rw [h10] at hc'; exact AH.none_le gR (hS'.2.lfr id' h9 c' hc')
    have leput : ∀ (w' : Wd) (st' : St) (τ' : AH) (ds' : List Nat) (G : AH) (o : AObj), HR P W { base := fr0.base, lo := some (l, rec_ .busy none) } w' st' τ' ds' → G.le w'.fr → G.le (τ'.put l o) := fun w' st' τ' ds' G o hH hG c' x hc' => by
      have h10 := hG _ _ hc'
      have : c' ≠ l := by rintro rfl; rw [(hH.lrec _ _ rfl).2.1] at h10; cases h10
      rw [AH.put_ne _ _ this]; exact hH.fr _ _ h10
    refine wpE_round hΓ body lp.ro st2 _ _ _ hk2 w3 aenv3 _ ds3 [] ⟨hS.1, hS2⟩ (fun st' w' aenv' τ' ds' hk' hS' hLt' => ?_) (fun i st' w' aenv' τ' ds' hk' hS' hLt' => ?_) (fun r' st' w' aenv' τ' ds' hk' hres hS' hfr' hro' => ?_)
    · -- it goes on
      obtain ⟨g1, g2, g3, g4, g5, g6, g7, g8⟩ := common st' w' aenv' τ' ds' hS' hLt'
      split at hk'
      · rename_i s'' l' hd'
        obtain ⟨hi', ho'⟩ := hk'
        obtain ⟨⟨as', hL'⟩, hDD⟩ := g8 s'' l' hd'
        refine AW.fin (show isLoopNow τ' l ∧ _ from ⟨⟨_, _, _, _, _, _, _, _, _, g1⟩, ?_⟩)
        have e4 : AL.setLoop τ' l .ready none = τ'.put l (rec_ .ready none) := by simp [AL.setLoop, g1, rec_]
        rw [e4]
        have hP' : ∀ p ∈ lp.pts, VRel P W w' (max st'.nx lp.nx) p.2 (aenv.get p.1) := fun p hp => hOk_rel (n := lp.nx) g5 (by omega) _ (hd.pts p hp).1 (hP0 p hp)
        obtain ⟨w4, k1, k2, k3, k4, k5⟩ := LD.canon hd hS'.2 hL' hC hP' (hL'.fr_le hS'.2) hS'.2.base
        refine ⟨leput w' st' τ' ds' I _ hS'.2 g4, .inl ⟨rfl, leput w' st' τ' ds' I _ hS'.2 g4, AH.put_same _ _ _, s'', w4, by rw [k2]; exact g2, by rw [k2]; exact g3, by rw [k2]; exact g4, fun h hh => by rw [k1]; exact g5 h hh, hi', ho'.trans h6, k4, (k5.swap (o' := rec_ .ready none) rfl rfl).ds0, hDD _⟩⟩
      · exact hk'.elim
    · -- it leaves
      obtain ⟨g1, g2, g3, g4, g5, g6, g7, g8⟩ := common st' w' aenv' τ' ds' hS' hLt'
      split at hk'
      · rename_i s'' l' hd'
        obtain ⟨_, hDD⟩ := g8 s'' l' hd'
        refine .inr ⟨rfl, show isLoopNow τ' l ∧ _ from ⟨⟨_, _, _, _, _, _, _, _, _, g1⟩, ?_⟩⟩
        have e4 : AL.setLoop τ' l .done (some (.exit i)) = τ'.put l (rec_ .done (some (.exit i))) := by simp [AL.setLoop, g1, rec_]
        rw [e4]
        refine ⟨leput w' st' τ' ds' I _ hS'.2 g4, .inr ⟨rfl, leput w' st' τ' ds' I _ hS'.2 g4, ?_, leput w' st' τ' ds' R0 _ hS'.2 g2, .exit i, AH.put_same _ _ _, .inl ⟨i, s'', rfl, hDD _, ?_⟩⟩⟩
        · have : b ≠ l := hlb.symm
          rw [AH.put_ne _ _ this]; exact hS'.2.fr _ _ g3
        · split at hk'
          · rename_i hid; exact .inl ⟨hid, h6 ▸ hk'⟩
          · rename_i hid
            split at hk'
            · rename_i hm; exact .inr ⟨hm, hid, h6 ▸ hk'⟩
            · exact hk'.elim
      · exact hk'.elim
    · -- it returns
      split at hk'
      · rename_i hrt
        obtain ⟨g1, g2, g3⟩ := hS'.2.lrec l _ rfl
        have gR : R0.le w'.fr := AH.le_trans h1 (AH.le_trans hLt.le.fr hfr')
        have gI : I.le w'.fr := AH.le_trans h3 (AH.le_trans hLt.le.fr hfr')
        have gb : w'.fr b = some .marks := hfr' _ _ (hLt.le.fr _ _ h2)
        refine show isLoopNow τ' l ∧ _ from ⟨⟨_, _, _, _, _, _, _, _, _, g1⟩, ?_⟩
        have e4 : AL.setLoop τ' l .done (some .ret) = τ'.put l (rec_ .done (some .ret)) := by simp [AL.setLoop, g1, rec_]
        rw [e4]
        refine ⟨leput w' st' τ' ds' I _ hS'.2 gI, .inr ⟨rfl, leput w' st' τ' ds' I _ hS'.2 gI, ?_, leput w' st' τ' ds' R0 _ hS'.2 gR, .ret, AH.put_same _ _ _, .inr ⟨r', { st' with env := lp.ro.map fun t => (t, nocnd (lk st'.env t)) }, w', rfl, hrt, h6 ▸ hk', ?_, gR, gb, ?_, ((hS'.2.swap (o' := rec_ .done (some .ret)) rfl rfl).withEnv _).ds0⟩⟩⟩
        · have : b ≠ l := hlb.symm
          rw [AH.put_ne _ _ this]; exact hS'.2.fr _ _ gb
        · unfold resT at hres ⊢
          split at hres
          · rename_i vs hvs'
            have hall := List.all_eq_true.1 (hret1 hrt)
            rw [resV_env (st := st') (st' := { st' with env := lp.ro.map fun t => (t, nocnd (lk st'.env t)) }) rfl (fun r hr => ?_) hvs']
            · exact hres
            · have := hall r hr
              cases r with
              | t m => exact lk_map _ _ _ (by simpa using this)
              | cell m _ _ => exact lk_map _ _ _ (by simpa using this)
          · cases hres
        · refine ER_of fun q hq => ?_
          obtain ⟨t, ht, rfl⟩ := List.mem_map.1 hq
          simp only
          have hget : aenv'.get t = aenv.get t := (hro' t ht).trans ((hLt.ro t ht).trans (hro1 t ht))
          have h10 : VRel P W w' st'.nx (nocnd (lk st'.env t)) (aenv'.get t) := by
            have := hS'.1 t
            generalize lk st'.env t = v at this
            cases v <;> first | (simp only [nocnd, VRel]; done) | exact this
          have h11 : (nocnd (lk st'.env t)).isCnd = false := by
            generalize lk st'.env t = v
            cases v <;> rfl
          rw [hget] at h10
          exact (SR_plain h11).2 h10
      · exact hk'.elim
end
end Go.AL

namespace Go.AL
open Go.RowKit
set_option linter.unusedVariables false
set_option linter.unusedSimpArgs false
set_option linter.unusedSectionVars false

section
variable [Uni3] {P : Program} {W : World} {fr0 : F0} {Γ : Ctx} {rvs : List RV} {rts : List Ty} {Λ : Nat → Option (Loop (ElT rts))} {Λr : Nat → Option (RLoop (ElT rts))} {n : Nat}

theorem toVs_length : ∀ (ts : List Ty) (x : ElT ts), (toVs ts x).length = ts.length
  | [], x => rfl
  | [t], x => rfl
  | t :: u :: ts, x => by simp [toVs, toVs_length (u :: ts) x.2]
theorem encTs_length' : ∀ (ts : List Ty) (x : ElT ts), (AL.encTs ts x).length = ts.length
  | [], x => rfl
  | [t], x => rfl
  | t :: u :: ts, x => by simp [AL.encTs, encTs_length' (u :: ts) x.2]

/-- The walk of a function. -/
theorem acall_of_wpF (hΓ : CtxOK P W Γ) {f : Nat} {ps : List Ty} {a : ElT ps} {R : ElT rts → Prop} (h : wpF P Γ f ps rts Λ Λr a R) {as : List AV} (has : as.map AV.bare = AL.encTs ps a) (σ : AH) :
    ACall P W f as σ fun v σ' => ∃ r, R r ∧ Sim v (encR rts r) ∧ σ.le σ' := by
  unfold wpF at h
  split at h
  · rename_i n rvs ac hcode
    obtain ⟨fn, c, h1, h2, h3, h4, h5, rfl⟩ := codeOf_spec hcode
    split at h
    · rename_i hps
      have hlen : as.length = ps.length := by rw [← List.length_map (f := AV.bare), has, encTs_length']
      refine acall_of h1 h2 h3 h4 h5 (by omega) ?_
      let w : Wd := { ρ := fun x => x, tk := fun _ => .none, ext := fun _ _ => False, fr := σ }
      have hs : StR P W { base := σ, lo := none } w (initSt ps a) (argEnv 0 as) σ [] := by
        constructor
        · refine ER_of fun p hp => ?_
          simp only [initSt] at hp ⊢
          refine VRelL_zip _ _ (.inr trivial) (toVs_cnd _ _) (fun i t v ht hv => ?_) p hp
          have hi : i < ps.length := by
            rcases Nat.lt_or_ge i ps.length with h6 | h6
            · exact h6
            · rw [List.getElem?_eq_none (by simpa using h6)] at ht; cases ht
          rw [List.getElem?_range hi] at ht
          cases ht
          obtain ⟨x, h7, h8⟩ := (toVs_rel (P := P) (W := W) (w := w) (nx := 0) _ _ _ has).get i hv
          rw [argEnv_get]
          simp only [Nat.zero_le, if_true, Nat.sub_zero, List.getD_eq_getElem?_getD, h7, Option.getD_some]
          exact h8
        · exact ⟨AH.le_refl _, AH.le_refl _, fun x o hx => by simp [initSt, hlk] at hx, fun x o hx => by simp [initSt, hlk] at hx, fun x o hx => by simp [initSt, hlk] at hx, fun x y o o' hx => by simp [initSt, hlk] at hx,
            fun i hi => by simp [initSt] at hi, fun i hi => by simp [initSt] at hi, fun i hi => by simp [initSt] at hi, fun i hi => by simp [initSt] at hi, List.nodup_nil, fun b hb => (by cases hb), fun l o hl => (by cases hl)⟩
      have hall := wpE_all (fr0 := { base := σ, lo := none }) (rof := none) (Q := atEnd rvs fun v σ' => ∃ r, R r ∧ Sim v (encR rts r) ∧ σ.le σ') (n := fn.ntmps) (rvs := rvs) (Λ := Λ) (Λr := Λr) (top := true) hΓ (fun id z ps a b => CodeOK.rangeF hΓ rfl id z ps a b) ac
      refine hall [] (initSt ps a) _ _ _ h w (argEnv 0 as) σ [] [] hs (fun st' w' aenv' σ' ds' h6 h7 h8 => ?_) (fun i st' w' aenv' σ' ds' h6 => h6.elim) (fun r st' w' aenv' σ' ds' h6 h7 h8 h9 _ => ?_)
      · split at h6
        · rename_i r hr
          exact AW.fin (show ds'.Nodup ∧ _ from atEnd_of (R := fun v σ' => ∃ r, R r ∧ Sim v (encR rts r) ∧ σ.le σ') h7 hr fun v τ h9 h10 => ⟨r, h6, h9, h10⟩)
        · exact h6.elim
      · exact show ds'.Nodup ∧ _ from atEnd_of (R := fun v σ' => ∃ r, R r ∧ Sim v (encR rts r) ∧ σ.le σ') h8 h7 fun v τ h10 h11 => ⟨r, h6, h10, h11⟩
    · exact h.elim
  · exact h.elim

/-- A function that does not call itself. -/
theorem funOK {f : Nat} {ps : List Ty} {pre : Option (ElT ps → Prop)} {spec : ElT ps → ElT rts} (hΓ : CtxOK P W Γ) {Λ : ElT ps → Nat → Option (Loop (ElT rts))} {Λr : ElT ps → Nat → Option (RLoop (ElT rts))}
    (h : ∀ a, preC pre a → wpF P Γ f ps rts (Λ a) (Λr a) a fun r => spec a = r) : CtrOK P W f (pureCtr ps rts pre spec) := by
  refine pureCtr_ok fun a ha as has σ => (acall_of_wpF hΓ (h a ha) has σ).mono fun v σ' ⟨r, h1, h2, h3⟩ => ⟨h1 ▸ h2, h3⟩

/-- A function that calls itself, with a lesser measure. -/
theorem funOK_rec {f : Nat} {ps : List Ty} {pre : Option (ElT ps → Prop)} {spec : ElT ps → ElT rts} (m : ElT ps → Nat) {l : List (Nat × Ctr)} (hl : ∀ p ∈ l, CtrOK P W p.1 p.2) {Λ : ElT ps → Nat → Option (Loop (ElT rts))} {Λr : ElT ps → Nat → Option (RLoop (ElT rts))}
    (h : ∀ a, preC pre a → wpF P (lookC ((f, pureCtr ps rts (some fun b => preC pre b ∧ m b < m a) spec) :: l)) f ps rts (Λ a) (Λr a) a fun r => spec a = r) : CtrOK P W f (pureCtr ps rts pre spec) := by
  refine pureCtr_ok ?_
  have key : ∀ k a, m a = k → preC pre a → ∀ as, as.map AV.bare = AL.encTs ps a → ∀ σ, ACall P W f as σ fun v σ' => Sim v (encR rts (spec a)) ∧ σ.le σ' := by
    intro k
    induction k using Nat.strongRecOn with
    | _ k ih =>
      intro a hk ha as has σ
      have hΓ : CtxOK P W (lookC ((f, pureCtr ps rts (some fun b => preC pre b ∧ m b < m a) spec) :: l)) := lookC_ok fun p hp => by
        rcases List.mem_cons.1 hp with rfl | hp
        · exact pureCtr_ok (pre := some fun b => preC pre b ∧ m b < m a) fun b hb bs hbs τ => ih (m b) (hk ▸ hb.2) b rfl hb.1 bs hbs τ
        · exact hl p hp
      exact (acall_of_wpF hΓ (h a ha) has σ).mono fun v σ' ⟨r, h1, h2, h3⟩ => ⟨h1 ▸ h2, h3⟩
  exact fun a ha as has σ => key _ a rfl ha as has σ
end
end Go.AL

namespace Go.AL
open Go.RowKit
set_option linter.unusedVariables false
set_option linter.unusedSimpArgs false
set_option linter.unusedSectionVars false

section
variable [Uni3]

def wpI (Γ : Ctx) (rvs : List RV) : AC → St → (St → Prop) → (Nat → St → Prop) → (List VV → St → Prop) → Prop
  | .skip, st, kn, kx, kR => kn st
  | .seq a b, st, kn, kx, kR => wpI Γ rvs a st (fun st' => wpI Γ rvs b st' kn kx kR) kx kR
  | .reg ops [], st, kn, kx, kR => wpOE Γ [] ops st kn
  | .dreg hd tl [], st, kn, kx, kR => wpHE Γ [] hd st fun st1 => newsE (newsOf hd) st1 fun st2 => wpOE Γ [] tl st2 kn
  | .cond z a b, st, kn, kx, kR => match evX st.env [] z with
    | .bool e => ifB e (wpI Γ rvs a st kn kx kR) (wpI Γ rvs b st kn kx kR)
    | _ => False
  | .block id a, st, kn, kx, kR => wpI Γ rvs a st kn (fun i st' => if i = id then kn st' else kx i st') kR
  | .exit i, st, kn, kx, kR => kx i st
  | .ret, st, kn, kx, kR => match resV st rvs with
    | some vs => kR vs st
    | none => False
  | _, _, _, _, _ => False

def inlRes : List VV → VV
  | [] => .tup []
  | [v] => v
  | u :: v :: l => .tup (u :: v :: l)

def inlK (Γ : Ctx) (n : Nat) (rvs : List RV) (ac : AC) : Ctr where
  pv vs := none
  run vs st K := if vs.length ≤ n then wpI Γ rvs ac { st with env := (List.range vs.length).zip (vs.map nocnd) } (fun st' => match resV st' rvs with
    | some l => K (inlRes l) { st' with env := st.env }
    | none => False) (fun _ _ => False) (fun l st' => K (inlRes l) { st' with env := st.env }) else False

/-- The function's code in place of its call. -/
def inlC (P : Program) (Γ : Ctx) (f : Nat) : Ctr :=
  match codeOf P f with
  | some (n, rvs, ac) => inlK Γ n rvs ac
  | none => { pv := fun _ => none, run := fun _ _ _ => False }

variable {P : Program} {W : World} {fr0 : F0} {Γ : Ctx} {rvs : List RV} {n : Nat} {ds : List Nat} {Q : Out → Env → AH → List Nat → Prop}

theorem wpI_sound (hΓ : CtxOK P W Γ) : ∀ (c : AC) (st : St) (kn : St → Prop) (kx : Nat → St → Prop) (kR : List VV → St → Prop), wpI Γ rvs c st kn kx kR → ∀ (w : Wd) (aenv : Env) (σ : AH) (K : List AItem), StR P W fr0 w st aenv σ ds →
    (∀ st' w' aenv' σ', kn st' → StR P W fr0 w' st' aenv' σ' ds → Later [] st st' w w' aenv aenv' → AW P W none n Q K aenv' σ' []) →
    (∀ i st' w' aenv' σ', kx i st' → StR P W fr0 w' st' aenv' σ' ds → Later [] st st' w w' aenv aenv' → ExitOK P W none n Q i K aenv' σ' []) →
    (∀ l st' w' aenv' σ', kR l st' → resV st' rvs = some l → StR P W fr0 w' st' aenv' σ' ds → Later [] st st' w w' aenv aenv' → Q .ret aenv' σ' []) →
    AW P W none n Q (.c c :: K) aenv σ []
  | .skip, st, kn, kx, kR, h, w, aenv, σ, K, hs, hn, hx, hr => by
    simp only [wpI] at h
    exact AW.skip (hn st w aenv σ h hs (.refl _ _ _ _))
  | .seq a b, st, kn, kx, kR, h, w, aenv, σ, K, hs, hn, hx, hr => by
    simp only [wpI] at h
    refine AW.seq (wpI_sound hΓ a st _ kx kR h w aenv σ (.c b :: K) hs (fun st' w' aenv' σ' h1 h2 h3 => ?_) (fun i st' w' aenv' σ' h1 h2 h3 => (hx i st' w' aenv' σ' h1 h2 h3).skip rfl) hr)
    exact wpI_sound hΓ b st' kn kx kR h1 w' aenv' σ' K h2 (fun st'' w'' aenv'' σ'' k1 k2 k3 => hn _ _ _ _ k1 k2 (h3.trans k3)) (fun i st'' w'' aenv'' σ'' k1 k2 k3 => hx _ _ _ _ _ k1 k2 (h3.trans k3))
      fun l st'' w'' aenv'' σ'' k1 k2 k3 k4 => hr l st'' w'' aenv'' σ'' k1 k2 k3 (h3.trans k4)
  | .reg ops dead, st, kn, kx, kR, h, w, aenv, σ, K, hs, hn, hx, hr => by
    cases dead with
    | cons _ _ => simp [wpI] at h
    | nil =>
      simp only [wpI] at h
      refine AW.reg (wpOE_sound hΓ ops st w aenv σ h hs.1 hs.2 fun st' w' aenv' σ' h1 h2 h3 h4 h5 h6 => ?_)
      rw [Env.drop_nil]
      exact hn st' w' aenv' σ' h1 ⟨h2, h3⟩ ⟨h4, h5, h6⟩
  | .dreg hd tl dead, st, kn, kx, kR, h, w, aenv, σ, K, hs, hn, hx, hr => by
    cases dead with
    | cons _ _ => simp [wpI] at h
    | nil =>
      simp only [wpI] at h
      refine AW.dreg (wpHE_sound hΓ hd st aenv h hs.1 hs.2 fun env1 aenv1 h1 h2 h3 => fun τ hτ => ?_)
      have hr1 : HR P W fr0 w { st with env := env1 } τ ds := (hs.2.withEnv env1).grow hτ
      refine newsE_sound (ro := []) _ [] { st with env := env1 } w aenv1 h1 (fun p hp => rfl) h2 hr1 hs.2.fr (fun x o hx => ?_) fun st2 w2 aenv2 k1 k2 k3 k4 k5 k6 => ?_
      · obtain ⟨ao, h4, _⟩ := hs.2.obj x o hx
        exact .inl (by rw [h4]; simp)
      · refine wpOE_sound hΓ tl st2 w2 aenv2 τ k1 k2 k3 fun st' w' aenv' σ' l1 l2 l3 l4 l5 l6 => ?_
        rw [Env.drop_nil]
        exact hn st' w' aenv' σ' l1 ⟨l2, l3⟩ ⟨Wd.le_trans k4 l4 k5, Nat.le_trans k5 l5, fun t ht => by cases ht⟩
  | .cond z a b, st, kn, kx, kR, h, w, aenv, σ, K, hs, hn, hx, hr => by
    simp only [wpI] at h
    have rz := evX_rel hs.1 (gs := []) (fun g hg => by cases hg) z
    split at h
    · rename_i e he
      rw [he] at rz
      simp only [VRel] at rz
      refine AW.cond rz ?_
      cases e with
      | true => exact wpI_sound hΓ a st kn kx kR h w aenv σ K hs hn hx hr
      | false => exact wpI_sound hΓ b st kn kx kR h w aenv σ K hs hn hx hr
    · exact h.elim
  | .block id a, st, kn, kx, kR, h, w, aenv, σ, K, hs, hn, hx, hr => by
    simp only [wpI] at h
    refine AW.block (wpI_sound hΓ a st kn _ kR h w aenv σ (.blk id :: K) hs (fun st' w' aenv' σ' h1 h2 h3 => AW.blk (hn _ _ _ _ h1 h2 h3)) (fun i st' w' aenv' σ' h1 h2 h3 => ?_) hr)
    split at h1
    · rename_i hi
      exact .inl ⟨K, by simp [exitA, hi], hn _ _ _ _ h1 h2 h3⟩
    · rename_i hi
      exact (hx _ _ _ _ _ h1 h2 h3).skip (by simp [exitA, Ne.symm hi])
  | .exit i, st, kn, kx, kR, h, w, aenv, σ, K, hs, hn, hx, hr => by
    simp only [wpI] at h
    exact (hx i st w aenv σ h hs (.refl _ _ _ _)).aw
  | .ret, st, kn, kx, kR, h, w, aenv, σ, K, hs, hn, hx, hr => by
    simp only [wpI] at h
    split at h
    · rename_i l hl
      exact AW.ret (hr l st w aenv σ h hl hs (.refl _ _ _ _))
    · exact h.elim
  | .loop x, st, kn, kx, kR, h, w, aenv, σ, K, hs, hn, hx, hr => by simp [wpI] at h
  | .rangeF z ps a b, st, kn, kx, kR, h, w, aenv, σ, K, hs, hn, hx, hr => by simp [wpI] at h

theorem inlRes_rel {w : Wd} {nx : Nat} {l : List VV} {vs : List AV} (h : VRelL P W w nx l vs) : VRel P W w nx (inlRes l) (one1 vs) := by
  match l, h with
  | [], h => simp only [VRelL] at h; subst h; simp only [inlRes, one1, VRel]; exact ⟨[], rfl, by simp [VRelL]⟩
  | [v], h =>
    simp only [VRelL] at h
    obtain ⟨a, r, rfl, h1, rfl⟩ := h
    exact h1
  | u :: v :: l, h =>
    have h' := h
    simp only [VRelL] at h
    obtain ⟨a, r, rfl, h1, b, r', rfl, h2, h3⟩ := h
    simp only [inlRes, one1, VRel]
    exact ⟨_, rfl, h'⟩

theorem inlC_ok {f : Nat} (hΓ : CtxOK P W Γ) : CtrOK P W f (inlC P Γ f) := by
  unfold inlC
  split
  · rename_i n rvs ac hcode
    obtain ⟨fn, c, h1, h2, h3, h4, h5, rfl⟩ := codeOf_spec hcode
    refine ⟨fun vs pv h => (by cases h), fun vs st K h fr0 w σ ds as hH hr => ?_⟩
    simp only [inlK] at h
    split at h
    · rename_i hlen
      have hl : vs.length = as.length := hr.length.symm
      refine acall_of h1 h2 h3 h4 h5 (by omega) ?_
      have hs : StR P W fr0 w { st with env := (List.range vs.length).zip (vs.map nocnd) } (argEnv 0 as) σ ds := by
        refine ⟨ER_of fun p hp => ?_, hH.withEnv _⟩
        refine VRelL_zip _ _ (.inr trivial) (fun v hv => ?_) (fun i t v ht hv => ?_) p hp
        · obtain ⟨u, _, rfl⟩ := List.mem_map.1 hv
          cases u <;> rfl
        · have hi : i < vs.length := by
            rcases Nat.lt_or_ge i vs.length with h6 | h6
            · exact h6
            · rw [List.getElem?_eq_none (by simpa using h6)] at ht; cases ht
          rw [List.getElem?_range hi] at ht
          cases ht
          rw [List.getElem?_map] at hv
          obtain ⟨u, hu, rfl⟩ := Option.map_eq_some_iff.1 hv
          obtain ⟨x, h7, h8⟩ := hr.get i hu
          rw [argEnv_get]
          simp only [Nat.zero_le, if_true, Nat.sub_zero, List.getD_eq_getElem?_getD, h7, Option.getD_some]
          cases u <;> first | (simp only [nocnd, VRel]; done) | exact h8
      have hend : ∀ l st' w' aenv' σ', (K (inlRes l) { st' with env := st.env }) → resV st' rvs = some l → StR P W fr0 w' st' aenv' σ' ds → Later [] { st with env := (List.range vs.length).zip (vs.map nocnd) } st' w w' (argEnv 0 as) aenv' →
          atEnd rvs (fun a σ' => ∃ v st' w', K v st' ∧ st'.env = st.env ∧ HR P W fr0 w' st' σ' ds ∧ VRel P W w' st'.nx v a ∧ Wd.le st.nx w w' ∧ st.nx ≤ st'.nx) .ret aenv' σ' [] := fun l st' w' aenv' σ' k1 k2 k3 k4 => by
        refine show [].Nodup ∧ (∀ b ∈ [], _) ∧ _ from ⟨List.nodup_nil, fun b hb => (by cases hb), ?_⟩
        exact resV_rel k3.1 k3.2.obj k2 fun us hu => ⟨_, _, w', k1, rfl, k3.2.withEnv _, inlRes_rel hu, k4.le, k4.nx⟩
      refine wpI_sound hΓ ac _ _ _ _ h w (argEnv 0 as) σ [] hs (fun st' w' aenv' σ' k1 k2 k3 => ?_) (fun i st' w' aenv' σ' k => k.elim) (fun l st' w' aenv' σ' k1 k2 k3 k4 => hend l st' w' aenv' σ' k1 k2 k3 k4)
      split at k1
      · rename_i l hl'
        exact AW.fin (hend l st' w' aenv' σ' k1 hl' k2 k3)
      · exact k1.elim
    · exact h.elim
  · exact ⟨fun vs pv h => (by cases h), fun vs st K h => h.elim⟩

theorem inlK_ok {f : Nat} {ac : AC} (hΓ : CtxOK P W Γ) (h : codeOf P f = some (n, rvs, ac)) : CtrOK P W f (inlK Γ n rvs ac) := by
  have := inlC_ok (P := P) (W := W) (f := f) hΓ
  unfold inlC at this
  rw [h] at this
  exact this
end
end Go.AL

namespace Go.AL
open Go.RowKit
set_option linter.unusedVariables false
set_option linter.unusedSimpArgs false
set_option linter.unusedSectionVars false

section
variable [Uni3]

def mkArgs : List (Option Nat) → List VV → List VV
  | [], _ => []
  | some f :: r, vs => .fn f [] [] :: mkArgs r vs
  | none :: r, v :: vs => v :: mkArgs r vs
  | none :: r, [] => .any :: mkArgs r []
def isFn (f : Nat) : VV → Bool
  | .fn g [] [] => g == f
  | _ => false
theorem isFn_eq {f : Nat} {v : VV} (h : isFn f v = true) : v = .fn f [] [] := by
  unfold isFn at h
  split at h
  · rw [beq_iff_eq.1 h]
  · cases h
def unArgs : List (Option Nat) → List VV → Option (List VV)
  | [], [] => some []
  | some f :: r, v :: vs => if isFn f v = true then unArgs r vs else none
  | none :: r, v :: vs => match unArgs r vs with
    | some l => some (v :: l)
    | none => none
  | _, _ => none
def keepA : List (Option Nat) → List AV → List AV
  | some _ :: r, _ :: as => keepA r as
  | none :: r, a :: as => a :: keepA r as
  | _, _ => []

variable {P : Program} {W : World} {w w' : Wd} {nx nx' : Nat}
theorem unArgs_rel : ∀ {fx : List (Option Nat)} {vs us : List VV} {as : List AV}, unArgs fx vs = some us → VRelL P W w nx vs as → VRelL P W w nx us (keepA fx as) ∧ as.length = fx.length ∧
    ∀ (w' : Wd) (nx' : Nat) (us' : List VV), VRelL P W w' nx' us' (keepA fx as) → VRelL P W w' nx' (mkArgs fx us') as
  | [], [], us, as, h, hr => by
    cases h
    simp only [VRelL] at hr; subst hr
    exact ⟨by simp [keepA, VRelL], rfl, fun w' nx' us' _ => by simp [mkArgs, VRelL]⟩
  | [], _ :: _, us, as, h, hr => by simp [unArgs] at h
  | some f :: r, [], us, as, h, hr => by simp [unArgs] at h
  | some f :: r, v :: vs, us, as, h, hr => by
    simp only [unArgs] at h
    split at h
    · rename_i hg
      have := isFn_eq hg
      subst this
      simp only [VRelL, VRel] at hr
      obtain ⟨a, s, rfl, ⟨xs, ys, rfl, rfl, rfl⟩, h2⟩ := hr
      obtain ⟨k1, k2, k3⟩ := unArgs_rel h h2
      refine ⟨k1, by simp [k2], fun w' nx' us' hu => ?_⟩
      simp only [mkArgs, VRelL, VRel]
      exact ⟨_, _, rfl, ⟨[], [], rfl, rfl, rfl⟩, k3 w' nx' us' hu⟩
    · cases h
  | none :: r, [], us, as, h, hr => by simp [unArgs] at h
  | none :: r, v :: vs, us, as, h, hr => by
    simp only [unArgs] at h
    split at h
    · rename_i l hl
      cases h
      simp only [VRelL] at hr
      obtain ⟨a, s, rfl, h1, h2⟩ := hr
      obtain ⟨k1, k2, k3⟩ := unArgs_rel hl h2
      refine ⟨by simp only [keepA, VRelL]; exact ⟨_, _, rfl, h1, k1⟩, by simp [k2], fun w' nx' us' hu => ?_⟩
      simp only [keepA] at hu
      cases us' with
      | nil => simp [VRelL] at hu
      | cons u us' =>
        simp only [VRelL] at hu
        obtain ⟨b, t, e, g1, g2⟩ := hu
        cases e
        simp only [mkArgs, VRelL]
        exact ⟨_, _, rfl, g1, k3 w' nx' us' g2⟩
    · cases h

theorem mkArgs_cnd : ∀ (fx : List (Option Nat)) (vs : List VV), (∀ v ∈ vs, v.isCnd = false) → ∀ v ∈ mkArgs fx vs, v.isCnd = false
  | [], vs, h, v, hv => by simp [mkArgs] at hv
  | some f :: r, vs, h, v, hv => by
    simp only [mkArgs, List.mem_cons] at hv
    rcases hv with rfl | hv
    · rfl
    · exact mkArgs_cnd r vs h v hv
  | none :: r, [], h, v, hv => by
    simp only [mkArgs, List.mem_cons] at hv
    rcases hv with rfl | hv
    · rfl
    · exact mkArgs_cnd r [] (fun _ h => by cases h) v hv
  | none :: r, u :: vs, h, v, hv => by
    simp only [mkArgs, List.mem_cons] at hv
    rcases hv with rfl | hv
    · exact h _ (by simp)
    · exact mkArgs_cnd r vs (fun x hx => h x (by simp [hx])) v hv

def initX (fx : List (Option Nat)) (ps : List Ty) (a : ElT ps) : St := { env := (List.range fx.length).zip (mkArgs fx (toVs ps a)), hp := [], live := [], nx := 0 }

/-- What is to be shown of a function that is handed these constant functions. -/
def wpFX (P : Program) (Γ : Ctx) (f : Nat) (fx : List (Option Nat)) (ps rs : List Ty) (Λ : Nat → Option (Loop (ElT rs))) (Λr : Nat → Option (RLoop (ElT rs))) (a : ElT ps) (R : ElT rs → Prop) : Prop :=
  match codeOf P f with
  | some (n, rvs, ac) => if fx.length ≤ n then wpE Γ rvs rs Λ Λr true [] ac (initX fx ps a) (fun st' => match resT rvs rs st' with
      | some r => R r
      | none => False) (fun _ _ => False) R else False
  | none => False

def pureX (fx : List (Option Nat)) (ps rs : List Ty) (pre : Option (ElT ps → Prop)) (spec : ElT ps → ElT rs) : Ctr where
  pv vs := match unArgs fx vs with
    | some us => (pureCtr ps rs pre spec).pv us
    | none => none
  run vs st K := match unArgs fx vs with
    | some us => (pureCtr ps rs pre spec).run us st K
    | none => False

variable {Γ : Ctx} {rts : List Ty} {Λ : Nat → Option (Loop (ElT rts))} {Λr : Nat → Option (RLoop (ElT rts))}

theorem acall_of_wpFX (hΓ : CtxOK P W Γ) {f : Nat} {fx : List (Option Nat)} {ps : List Ty} {a : ElT ps} {R : ElT rts → Prop} (h : wpFX P Γ f fx ps rts Λ Λr a R) {as : List AV} (hlen : as.length = fx.length)
    (has : ∀ w : Wd, VRelL P W w 0 (mkArgs fx (toVs ps a)) as) (σ : AH) : ACall P W f as σ fun v σ' => ∃ r, R r ∧ Sim v (encR rts r) ∧ σ.le σ' := by
  unfold wpFX at h
  split at h
  · rename_i n rvs ac hcode
    obtain ⟨fn, c, h1, h2, h3, h4, h5, rfl⟩ := codeOf_spec hcode
    split at h
    · rename_i hps
      refine acall_of h1 h2 h3 h4 h5 (by omega) ?_
      let w : Wd := { ρ := fun x => x, tk := fun _ => .none, ext := fun _ _ => False, fr := σ }
      have hs : StR P W { base := σ, lo := none } w (initX fx ps a) (argEnv 0 as) σ [] := by
        constructor
        · refine ER_of fun p hp => ?_
          simp only [initX] at hp ⊢
          refine VRelL_zip _ _ (.inr trivial) (mkArgs_cnd _ _ (toVs_cnd _ _)) (fun i t v ht hv => ?_) p hp
          have hi : i < fx.length := by
            rcases Nat.lt_or_ge i fx.length with h6 | h6
            · exact h6
            · rw [List.getElem?_eq_none (by simpa using h6)] at ht; cases ht
          rw [List.getElem?_range hi] at ht
          cases ht
          obtain ⟨x, h7, h8⟩ := (has w).get i hv
          rw [argEnv_get]
          simp only [Nat.zero_le, if_true, Nat.sub_zero, List.getD_eq_getElem?_getD, h7, Option.getD_some]
          exact h8
        · exact ⟨AH.le_refl _, AH.le_refl _, fun x o hx => by simp [initX, hlk] at hx, fun x o hx => by simp [initX, hlk] at hx, fun x o hx => by simp [initX, hlk] at hx, fun x y o o' hx => by simp [initX, hlk] at hx,
            fun i hi => by simp [initX] at hi, fun i hi => by simp [initX] at hi, fun i hi => by simp [initX] at hi, fun i hi => by simp [initX] at hi, List.nodup_nil, fun b hb => (by cases hb), fun l o hl => (by cases hl)⟩
      have hall := wpE_all (fr0 := { base := σ, lo := none }) (rof := none) (Q := atEnd rvs fun v σ' => ∃ r, R r ∧ Sim v (encR rts r) ∧ σ.le σ') (n := fn.ntmps) (rvs := rvs) (Λ := Λ) (Λr := Λr) (top := true) hΓ (fun id z ps a b => CodeOK.rangeF hΓ rfl id z ps a b) ac
      refine hall [] (initX fx ps a) _ _ _ h w (argEnv 0 as) σ [] [] hs (fun st' w' aenv' σ' ds' h6 h7 h8 => ?_) (fun i st' w' aenv' σ' ds' h6 => h6.elim) (fun r st' w' aenv' σ' ds' h6 h7 h8 h9 _ => ?_)
      · split at h6
        · rename_i r hr
          exact AW.fin (show ds'.Nodup ∧ _ from atEnd_of (R := fun v σ' => ∃ r, R r ∧ Sim v (encR rts r) ∧ σ.le σ') h7 hr fun v τ h9 h10 => ⟨r, h6, h9, h10⟩)
        · exact h6.elim
      · exact show ds'.Nodup ∧ _ from atEnd_of (R := fun v σ' => ∃ r, R r ∧ Sim v (encR rts r) ∧ σ.le σ') h8 h7 fun v τ h10 h11 => ⟨r, h6, h10, h11⟩
    · exact h.elim
  · exact h.elim

theorem funOKX {f : Nat} {fx : List (Option Nat)} {ps : List Ty} {pre : Option (ElT ps → Prop)} {spec : ElT ps → ElT rts} (hΓ : CtxOK P W Γ) {Λ : ElT ps → Nat → Option (Loop (ElT rts))} {Λr : ElT ps → Nat → Option (RLoop (ElT rts))}
    (h : ∀ a, preC pre a → wpFX P Γ f fx ps rts (Λ a) (Λr a) a fun r => spec a = r) : CtrOK P W f (pureX fx ps rts pre spec) := by
  have key : ∀ (vs us : List VV) (a : ElT ps) (w : Wd) (nx : Nat) (as : List AV), unArgs fx vs = some us → asTs ps us = some a → preC pre a → VRelL P W w nx vs as → ∀ σ, ACall P W f as σ fun v σ' => Sim v (encR rts (spec a)) ∧ σ.le σ' := by
    intro vs us a w nx as hu ha hp hr σ
    obtain ⟨k1, k2, k3⟩ := unArgs_rel hu hr
    have he := asTs_rel _ _ _ _ ha k1
    exact (acall_of_wpFX hΓ (h a hp) k2 (fun w0 => k3 w0 0 _ (toVs_rel _ _ _ he)) σ).mono fun v σ' ⟨r, h1, h2, h3⟩ => ⟨h1 ▸ h2, h3⟩
  constructor
  · intro vs pv hpv hc w nx as hr
    simp only [pureX] at hpv
    split at hpv
    · rename_i us hu
      simp only [pureCtr] at hpv
      split at hpv
      · rename_i a ha
        cases hpv
        have hp : preC pre a := by cases pre <;> first | trivial | exact hc
        exact ⟨trivial, encR rts (spec a), fun v hv => resVV_rel hv, fun σ => key vs us a w nx as hu ha hp hr σ⟩
      · cases hpv
    · cases hpv
  · intro vs st K hrun fr0 w σ ds as hH hr
    simp only [pureX] at hrun
    split at hrun
    · rename_i us hu
      simp only [pureCtr] at hrun
      split at hrun
      · rename_i a ha
        rw [addC_iff, allT_iff] at hrun
        have hp : preC pre a := by cases pre <;> first | trivial | exact hrun.1
        refine (key vs us a w _ as hu ha hp hr σ).mono fun v σ' ⟨h1, h2⟩ => ?_
        exact ⟨resVV rts (spec a), st, w, hrun.2 _ rfl, rfl, hH.grow h2, resVV_rel h1, Wd.le_refl _ _, Nat.le_refl _⟩
      · exact hrun.elim
    · exact hrun.elim
end
end Go.AL

namespace Go.AL
open Go.RowKit
set_option linter.unusedVariables false
set_option linter.unusedSimpArgs false
set_option linter.unusedSectionVars false

section
variable [Uni3]

/-- Code that ends in its one return, without it. -/
def endsR : AC → Bool
  | .seq _ b => endsR b
  | .ret => true
  | _ => false
def cutR : AC → AC
  | .seq a b => .seq a (cutR b)
  | _ => .skip

def mapAt (k v : Ty) (rvs : List RV) (st : St) (R : List (El k × El v) → Prop) : Prop :=
  match resV st rvs with
  | some [.mp h] => match hlk st.hp h with
    | some (.ob .map [c]) => match asF 8 (.lst (.pair k v)) c with
      | some l => R l
      | none => False
    | _ => False
  | _ => False

def wpM (P : Program) (Γ : Ctx) (f : Nat) (ps : List Ty) (k v : Ty) (Λ : Nat → Option (Loop (ElT []))) (a : ElT ps) (R : List (El k × El v) → Prop) : Prop :=
  match codeOf P f with
  | some (n, rvs, ac) => if ps.length ≤ n ∧ endsR ac = true then wpE Γ [] [] Λ (fun _ => none) true [] (cutR ac) (initSt ps a) (fun st' => mapAt k v rvs st' R) (fun _ _ => False) (fun _ => False) else False
  | none => False

/-- A contract: a new map with these entries. -/
def mapCtr (ps : List Ty) (k v : Ty) (pre : Option (ElT ps → Prop)) (spec : ElT ps → List (El k × El v)) : Ctr where
  pv _ := none
  run vs st K := match asTs ps vs with
    | some a => addC (match pre with | some p => some (p a) | none => none) (K (.mp st.nx) { st with hp := hpt st.hp st.nx (.ob .map [.lst (.pair k v) (spec a) .none]), nx := st.nx + 1 })
    | none => False

variable {P : Program} {W : World} {fr0 : F0} {Γ : Ctx} {n : Nat}

theorem cut_sound {rvs : List RV} {rts : List Ty} {Λ : Nat → Option (Loop (ElT rts))} {Λr : Nat → Option (RLoop (ElT rts))} (hΓ : CtxOK P W Γ) {Q : Out → Env → AH → List Nat → Prop}
    (hlo : fr0.lo = none) : ∀ (ac : AC), endsR ac = true → ∀ (st : St) (kn : St → Prop), wpE Γ rvs rts Λ Λr true [] (cutR ac) st kn (fun _ _ => False) (fun _ => False) →
    ∀ (w : Wd) (aenv : Env) (σ : AH) (ds : List Nat), StR P W fr0 w st aenv σ ds → (∀ st' w' aenv' σ' ds', kn st' → StR P W fr0 w' st' aenv' σ' ds' → Q .ret aenv' σ' ds') → AW P W none n Q [.c ac] aenv σ ds
  | .seq a b, he, st, kn, h, w, aenv, σ, ds, hs, hk => by
    simp only [cutR, wpE] at h
    refine AW.seq ?_
    refine wpE_all (fr0 := fr0) (rof := none) (Q := Q) (n := n) (top := true) hΓ (fun id z ps a b => CodeOK.rangeF hΓ hlo id z ps a b) a [] st _ _ _ h w aenv σ ds [.c b] hs (fun st' w' aenv' σ' ds' h1 h2 h3 => ?_) (fun i st' w' aenv' σ' ds' h1 => h1.elim) (fun r st' w' aenv' σ' ds' h1 => h1.elim)
    exact cut_sound hΓ hlo b he st' kn h1 w' aenv' σ' ds' h2 hk
  | .ret, he, st, kn, h, w, aenv, σ, ds, hs, hk => by
    simp only [cutR, wpE] at h
    exact AW.ret (hk _ _ _ _ _ h hs)
  | .skip, he, _, _, _, _, _, _, _, _, _ | .reg _ _, he, _, _, _, _, _, _, _, _, _ | .dreg _ _ _, he, _, _, _, _, _, _, _, _, _ | .cond _ _ _, he, _, _, _, _, _, _, _, _, _ | .block _ _, he, _, _, _, _, _, _, _, _, _
  | .loop _, he, _, _, _, _, _, _, _, _, _ | .exit _, he, _, _, _, _, _, _, _, _, _ | .rangeF _ _ _ _, he, _, _, _, _, _, _, _, _, _ => by cases he

theorem mapOK {f : Nat} {ps : List Ty} {k v : Ty} {pre : Option (ElT ps → Prop)} {spec : ElT ps → List (El k × El v)} (hΓ : CtxOK P W Γ) {Λ : ElT ps → Nat → Option (Loop (ElT []))}
    (h : ∀ a, preC pre a → wpM P Γ f ps k v (Λ a) a fun l => spec a = l) : CtrOK P W f (mapCtr ps k v pre spec) := by
  have key : ∀ a, preC pre a → ∀ as, as.map AV.bare = encTs ps a → ∀ σ, ACall P W f as σ fun x σ' => ∃ b, x = .map (some b) ∧ σ b = none ∧ σ.le σ' ∧ σ' b = some (.map ((spec a).map fun p => (encE k p.1, encE v p.2))) := by
    intro a ha as has σ
    have hw := h a ha
    unfold wpM at hw
    split at hw
    case h_2 => exact hw.elim
    rename_i n rvs ac hcode
    obtain ⟨fn, c, h1, h2, h3, h4, h5, rfl⟩ := codeOf_spec hcode
    split at hw
    case isFalse => exact hw.elim
    rename_i hps
    obtain ⟨hps, hends⟩ := hps
    have hlen : as.length = ps.length := by rw [← List.length_map (f := AV.bare), has, encTs_length']
    refine acall_of h1 h2 h3 h4 h5 (by omega) ?_
    let w : Wd := { ρ := fun x => x, tk := fun _ => .none, ext := fun _ _ => False, fr := σ }
    have hs : StR P W { base := σ, lo := none } w (initSt ps a) (argEnv 0 as) σ [] := by
      constructor
      · refine ER_of fun p hp => ?_
        simp only [initSt] at hp ⊢
        refine VRelL_zip _ _ (.inr trivial) (toVs_cnd _ _) (fun i t v ht hv => ?_) p hp
        have hi : i < ps.length := by
          rcases Nat.lt_or_ge i ps.length with h6 | h6
          · exact h6
          · rw [List.getElem?_eq_none (by simpa using h6)] at ht; cases ht
        rw [List.getElem?_range hi] at ht
        cases ht
        obtain ⟨x, h7, h8⟩ := (toVs_rel (P := P) (W := W) (w := w) (nx := 0) _ _ _ has).get i hv
        rw [argEnv_get]
        simp only [Nat.zero_le, if_true, Nat.sub_zero, List.getD_eq_getElem?_getD, h7, Option.getD_some]
        exact h8
      · exact ⟨AH.le_refl _, AH.le_refl _, fun x o hx => by simp [initSt, hlk] at hx, fun x o hx => by simp [initSt, hlk] at hx, fun x o hx => by simp [initSt, hlk] at hx, fun x y o o' hx => by simp [initSt, hlk] at hx,
          fun i hi => by simp [initSt] at hi, fun i hi => by simp [initSt] at hi, fun i hi => by simp [initSt] at hi, fun i hi => by simp [initSt] at hi, List.nodup_nil, fun b hb => (by cases hb), fun l o hl => (by cases hl)⟩
    refine cut_sound (fr0 := { base := σ, lo := none }) hΓ rfl ac hends _ _ hw w (argEnv 0 as) σ [] hs fun st' w' aenv' σ' ds h6 h7 => ?_
    unfold mapAt at h6
    split at h6
    case h_2 => exact h6.elim
    rename_i hd hres
    split at h6
    case h_2 => exact h6.elim
    rename_i cv hob
    split at h6
    case h_2 => exact h6.elim
    rename_i l hl
    have hbase : σ.le (σ'.delAll ds) := fun c o hc => by
      rw [delAll_get, if_neg]
      · exact h7.2.fr _ _ (h7.2.base _ _ hc)
      · intro hm
        have : σ c = none := (h7.2.mrk c hm).2
        rw [this] at hc; cases hc
    have hHO : HO P W w' st'.nx st'.hp (σ'.delAll ds) := fun x o hx => by
      obtain ⟨ao, h1, h2⟩ := h7.2.obj x o hx
      refine ⟨ao, ?_, h2⟩
      rw [delAll_get, if_neg]
      · exact h1
      · intro hm
        rw [(h7.2.mrk _ hm).1] at h1
        cases h1
        cases h2.mine
    refine ⟨h7.2.nd, fun b hb => (h7.2.mrk b hb).1, ?_⟩
    refine resV_rel h7.1 hHO hres fun vs hvs => ?_
    simp only [VRelL] at hvs
    obtain ⟨x, r, rfl, hx, rfl⟩ := hvs
    simp only [VRel] at hx
    obtain ⟨hx1, rfl⟩ := hx
    obtain ⟨ao, k1, cs, k2, k3⟩ := hHO _ _ hob
    simp only [VRelL] at k2
    obtain ⟨cx, r, rfl, k2, rfl⟩ := k2
    obtain ⟨es, t, k4, rfl⟩ := k3
    simp only [List.cons.injEq, and_true] at k4
    subst k4
    have k5 := asF_rel _ _ _ _ _ hl k2
    have k6 : es.map (fun p => AV.fn (.func 0) [p.1] [p.2]) = l.map (encE (.pair k v)) := by
      simp only [encE, AV.bare] at k5
      injection k5
    refine ⟨w'.ρ hd, rfl, ?_, hbase, ?_⟩
    · exact AH.none_le (AH.le_trans h7.2.base (AH.le_refl _)) (h7.2.hfr _ _ hob)
    · rw [k1, h6]
      congr 2
      have : ∀ (es : List (AV × AV)) (l : List (El k × El v)), es.map (fun p => AV.fn (.func 0) [p.1] [p.2]) = l.map (encE (.pair k v)) → es = l.map fun p => (encE k p.1, encE v p.2) := by
        intro es
        induction es with
        | nil => intro l hl; cases l with | nil => rfl | cons _ _ => cases hl
        | cons e es ih =>
          intro l hl
          cases l with
          | nil => cases hl
          | cons p l =>
            simp only [List.map_cons, List.cons.injEq, encE, AV.fn.injEq, true_and, and_true] at hl ⊢
            exact ⟨Prod.ext hl.1.1 hl.1.2, ih l hl.2⟩
      exact this es l k6
  constructor
  · intro vs pv hpv; cases hpv
  · intro vs st K hrun fr0 w σ ds as hH hr
    simp only [mapCtr] at hrun
    split at hrun
    case h_2 => exact hrun.elim
    rename_i a ha
    rw [addC_iff] at hrun
    have hp : preC pre a := by cases pre <;> first | trivial | exact hrun.1
    refine (key a hp as (asTs_rel _ _ _ _ ha hr) σ).mono fun x σ' ⟨b, h1, h2, h3, h4⟩ => ?_
    have hle : σ.le (σ'.del b) := fun c o hc => by
      have : c ≠ b := by rintro rfl; rw [h2] at hc; cases hc
      simp only [AH.del, this, if_false]; exact h3 _ _ hc
    have heq : (σ'.del b).put b (.map ((spec a).map fun p => (encE k p.1, encE v p.2))) = σ' := by
      funext c
      by_cases hc : c = b
      · subst hc; rw [AH.put_same, h4]
      · rw [AH.put_ne _ _ hc]; simp [AH.del, hc]
    obtain ⟨w', g1, g2, g3⟩ := (hH.grow hle).new (b := b) (by simp [AH.del]) (o := .ob .map [.lst (.pair k v) (spec a) .none]) (ao := .map ((spec a).map fun p => (encE k p.1, encE v p.2)))
      ⟨[.lst 1 ((spec a).map (encE (.pair k v))) .none], by simp only [VRelL, VRel]; exact ⟨_, _, rfl, ⟨.none, rfl, trivial⟩, rfl⟩, (spec a).map (fun p => (encE k p.1, encE v p.2)), .none, by rw [List.map_map]; rfl, rfl⟩
    rw [heq] at g2
    exact ⟨_, _, w', hrun.2, rfl, g2, by rw [h1]; simp only [VRel]; exact ⟨Nat.lt_succ_self _, by rw [g3]⟩, g1, Nat.le_succ _⟩
end
end Go.AL

namespace Go.AL
open Go.RowKit
set_option linter.unusedVariables false
set_option linter.unusedSimpArgs false
set_option linter.unusedSectionVars false

section
variable [Uni3]
def constCtr (cs : List AV) : Ctr where
  pv vs := match vs with
    | [] => some ⟨none, none, .agg (ofAVs cs)⟩
    | _ => none
  run vs st K := match vs with
    | [] => K (.agg (ofAVs cs)) st
    | _ => False

def plainAV : AV → Bool
  | .int _ _ | .bool _ | .str _ | .nilf | .fn (.func _) [] [] => true
  | _ => false
theorem plain_rel {P : Program} {W : World} {w : Wd} {nx : Nat} {c a : AV} (h : plainAV c = true) : VRel P W w nx (ofAV1 c) a → a = c := by
  unfold plainAV at h
  split at h
  · simp only [ofAV1, VRel]; exact id
  · simp only [ofAV1, VRel]; exact id
  · simp only [ofAV1, VRel]; exact id
  · simp only [ofAV1, VRel]; exact id
  · simp only [ofAV1, VRel, VRelL]
    rintro ⟨as, bs, rfl, rfl, rfl⟩; rfl
  · cases h
theorem plains_rel {P : Program} {W : World} {w : Wd} {nx : Nat} : ∀ {cs as : List AV}, cs.all plainAV = true → VRelL P W w nx (ofAVs cs) as → as = cs
  | [], as, _, h => by simpa [ofAVs, VRelL] using h
  | c :: cs, as, hc, h => by
    simp only [List.all_cons, Bool.and_eq_true] at hc
    simp only [ofAVs, List.map_cons, VRelL] at h
    obtain ⟨a, r, rfl, h1, h2⟩ := h
    rw [plain_rel hc.1 h1, plains_rel hc.2 h2]
theorem plain_bare {c a : AV} (h : plainAV c = true) (ha : a.bare1 = c) : a = c := by
  subst ha
  cases a <;> first | rfl | (cases h; done)
theorem plains_bare : ∀ {cs as : List AV}, cs.all plainAV = true → as.map AV.bare1 = cs → as = cs
  | [], as, _, h => by simpa using h
  | c :: cs, [], _, h => by cases h
  | c :: cs, a :: as, hc, h => by
    simp only [List.all_cons, Bool.and_eq_true] at hc
    simp only [List.map_cons, List.cons.injEq] at h
    rw [plain_bare hc.1 h.1, plains_bare hc.2 h.2]

variable {P : Program} {W : World} {Γ : Ctx} {n : Nat} {rvs : List RV} {ac : AC} {f : Nat}

theorem const_ok {cs : List AV} (hc : cs.all plainAV = true) (hΓ : CtxOK P W Γ) (hf : codeOf P f = some (n, rvs, ac))
    (h : (inlK Γ n rvs ac).run [] { env := [], hp := [], live := [], nx := 0 } (fun v _ => v = .agg (ofAVs cs))) : CtrOK P W f (constCtr cs) := by
  have hinl := inlK_ok (W := W) hΓ hf
  have key : ∀ σ, ACall P W f [] σ fun a σ' => a = .agg cs ∧ σ.le σ' := by
    intro σ
    let w : Wd := { ρ := fun x => x, tk := fun _ => .none, ext := fun _ _ => False, fr := σ }
    refine (hinl.run [] _ _ h { base := σ, lo := none } w σ [] [] ⟨AH.le_refl _, AH.le_refl _, fun x o hx => by simp [hlk] at hx, fun x o hx => by simp [hlk] at hx, fun x o hx => by simp [hlk] at hx, fun x y o o' hx => by simp [hlk] at hx,
            fun i hi => by simp at hi, fun i hi => by simp at hi, fun i hi => by simp at hi, fun i hi => by simp at hi, List.nodup_nil, fun b hb => (by cases hb), fun l o hl => (by cases hl)⟩ rfl).mono fun a σ' ⟨v, st', w', h1, h2, h3, h4, h5, h6⟩ => ?_
    subst h1
    simp only [VRel] at h4
    obtain ⟨as, rfl, h4⟩ := h4
    exact ⟨by rw [plains_rel hc h4], AH.le_trans h3.base h3.fr⟩
  constructor
  · intro vs pv hpv _ w nx as hr
    cases vs with
    | cons _ _ => cases hpv
    | nil =>
      cases hpv
      simp only [VRelL] at hr
      subst hr
      refine ⟨trivial, .agg cs, fun a ha => ?_, fun σ => (key σ).mono fun a σ' ⟨h1, h2⟩ => ⟨.inl h1, h2⟩⟩
      simp only [VRel]
      rcases ha with rfl | ha | ⟨_, _, ha⟩
      · exact ⟨_, rfl, ofAVs_rel _⟩
      · cases a <;> first | (cases ha; done) | skip
        rename_i xs
        injection ha with ha
        rw [plains_bare hc ha]
        exact ⟨_, rfl, ofAVs_rel _⟩
      · cases ha
  · intro vs st K hrun fr0 w σ ds as hH hr
    cases vs with
    | cons _ _ => exact hrun.elim
    | nil =>
      simp only [VRelL] at hr
      subst hr
      refine (key σ).mono fun a σ' ⟨h1, h2⟩ => ?_
      subst h1
      exact ⟨_, st, w, hrun, rfl, hH.grow h2, by simp only [VRel]; exact ⟨_, rfl, ofAVs_rel _⟩, Wd.le_refl _ _, Nat.le_refl _⟩
end
end Go.AL

namespace Go.AL
open Go.RowKit
set_option linter.unusedVariables false
set_option linter.unusedSectionVars false

inductive Tm where
  | mk (kind : Int) (text : ByteArray) (kids : List Tm)
def Tm.kind : Tm → Int | .mk k _ _ => k
def Tm.text : Tm → ByteArray | .mk _ s _ => s
def Tm.kids : Tm → List Tm | .mk _ _ l => l
instance : Inhabited Tm := ⟨.mk 0 ⟨#[]⟩ []⟩
@[simp] theorem Tm.eta (t : Tm) : Tm.mk t.kind t.text t.kids = t := by cases t; rfl

structure Cmd where
  kind : Int
  sym : Tm
  label : ByteArray
  deriving Inhabited
structure Blk where
  label : ByteArray
  cmds : List Cmd
  deriving Inhabited
structure Bnd where
  var : ByteArray
  val : List Tm
  deriving Inhabited

structure Unq where
  a : Tm
  b : Tm
  deriving Inhabited
structure Cfg where
  expr : List Tm
  apart : List Unq
  deriving Inhabited

mutual
def encT : Tm → AV
  | .mk k s l => .agg [.int .i64 k, .str s, .lst 3 (encTL l) .none]
def encTL : List Tm → List AV
  | [] => []
  | t :: l => encT t :: encTL l
end
theorem encTL_map : ∀ l : List Tm, encTL l = l.map encT
  | [] => rfl
  | t :: l => by simp [encTL, encTL_map l]

def encN0 (t : Tm) : List AV := [.int .i64 t.kind, .str t.text, .lst 3 (t.kids.map encT) .none]
theorem encT_eq (t : Tm) : encT t = .agg (encN0 t) := by
  cases t with
  | mk k s l => simp [encT, encN0, Tm.kind, Tm.text, Tm.kids, encTL_map]
def encN1 (x : Cmd) : List AV := .int .i64 x.kind :: encN0 x.sym ++ [.str x.label]
def encN2 (x : Blk) : List AV := [.str x.label, .lst 5 (x.cmds.map fun c => .agg (encN1 c)) .none]
def encN3 (x : Bnd) : List AV := [.str x.var, .lst 3 (x.val.map encT) .none]

def encN4 (x : Unq) : List AV := encN0 x.a ++ encN0 x.b
def encN5 (x : Cfg) : List AV := [.lst 3 (x.expr.map encT) .none, .lst 6 (x.apart.map fun c => .agg (encN4 c)) .none]

def NT : Nat → Type
  | 0 => Tm
  | 1 => Cmd
  | 2 => Blk
  | 3 => Bnd
  | 4 => Unq
  | 5 => Cfg
  | _ => Unit
def NE : (n : Nat) → NT n → List AV
  | 0, x => encN0 x
  | 1, x => encN1 x
  | 2, x => encN2 x
  | 3, x => encN3 x
  | 4, x => encN4 x
  | 5, x => encN5 x
  | _ + 6, _ => []
def NS : Nat → Nat
  | 0 => 3
  | 1 => 5
  | 2 => 2
  | 3 => 2
  | 4 => 6
  | 5 => 2
  | _ => 0

instance uni : Uni where
  N := NT
  sz := NS
  enc := NE
  one := fun n x => by
    match n, x with
    | 0, x => rfl
    | 1, x => rfl
    | 2, x => rfl
    | 3, x => rfl
    | 4, x => rfl
    | 5, x => rfl
    | _ + 6, _ => rfl
  len := fun n x => by
    match n, x with
    | 0, x => rfl
    | 1, x => rfl
    | 2, x => rfl
    | 3, x => rfl
    | 4, x => rfl
    | 5, x => rfl
    | _ + 6, _ => rfl
  bare := fun n x => by
    match n, x with
    | 0, x => rfl
    | 1, x => rfl
    | 2, x => rfl
    | 3, x => rfl
    | 4, x => rfl
    | 5, x => rfl
    | _ + 6, _ => rfl

def NF : Nat → List Ty
  | 0 => [.int .i64, .str, .lst (.nm 0)]
  | 1 => [.int .i64, .nm 0, .str]
  | 2 => [.str, .lst (.nm 1)]
  | 3 => [.str, .lst (.nm 0)]
  | 4 => [.nm 0, .nm 0]
  | 5 => [.lst (.nm 0), .lst (.nm 4)]
  | _ => []
def NM : (n : Nat) → ElT (NF n) → NT n
  | 0, x => Tm.mk x.1 x.2.1 x.2.2
  | 1, x => Cmd.mk x.1 x.2.1 x.2.2
  | 2, x => Blk.mk x.1 x.2
  | 3, x => Bnd.mk x.1 x.2
  | 4, x => Unq.mk x.1 x.2
  | 5, x => Cfg.mk x.1 x.2
  | _ + 6, _ => ()
def NP : (n : Nat) → NT n → ElT (NF n)
  | 0, x => (Tm.kind x, Tm.text x, Tm.kids x)
  | 1, x => (Cmd.kind x, Cmd.sym x, Cmd.label x)
  | 2, x => (Blk.label x, Blk.cmds x)
  | 3, x => (Bnd.var x, Bnd.val x)
  | 4, x => (Unq.a x, Unq.b x)
  | 5, x => (Cfg.expr x, Cfg.apart x)
  | _ + 6, _ => ()

theorem encE0 (x : Tm) : encE (.nm 0) x = encT x := (encT_eq x).symm
instance uni2 : Uni2 where
  flds := NF
  mkN := NM
  prjN := NP
  encOK := fun n x => by
    match n, x with
    | 0, x =>
      have h : (encE (.nm 0) : Tm → AV) = encT := funext encE0
      show encN0 x = [.int .i64 (Tm.kind x), .str (Tm.text x), .lst 3 ((Tm.kids x).map (encE (.nm 0) : Tm → AV)) .none]
      rw [h]; rfl
    | 1, x => rfl
    | 2, x => rfl
    | 3, x =>
      have h : (encE (.nm 0) : Tm → AV) = encT := funext encE0
      show encN3 x = [.str (Bnd.var x), .lst 3 ((Bnd.val x).map (encE (.nm 0) : Tm → AV)) .none]
      rw [h]; rfl
    | 4, x => rfl
    | 5, x =>
      have h : (encE (.nm 0) : Tm → AV) = encT := funext encE0
      show encN5 x = [.lst 3 ((Cfg.expr x).map (encE (.nm 0) : Tm → AV)) .none, .lst 6 ((Cfg.apart x).map fun c => .agg (encN4 c)) .none]
      rw [h]; rfl
    | _ + 6, _ => rfl
  prjmk := fun n y => by
    match n, y with
    | 0, y => rfl
    | 1, y => rfl
    | 2, y => rfl
    | 3, y => rfl
    | 4, y => rfl
    | 5, y => rfl
    | _ + 6, _ => rfl

def ND : (n : Nat) → NT n
  | 0 => (default : Tm)
  | 1 => (default : Cmd)
  | 2 => (default : Blk)
  | 3 => (default : Bnd)
  | 4 => (default : Unq)
  | 5 => (default : Cfg)
  | _ + 6 => ()
instance uni3 : Uni3 where
  dfl := ND
end Go.AL

namespace Go.AL
set_option linter.unusedVariables false
set_option linter.unusedSectionVars false

theorem ifB_of {e : Bool} {A B : Prop} (h1 : e = true → A) (h2 : e = false → B) : ifB e A B := by
  cases e
  · exact h2 rfl
  · exact h1 rfl
theorem ifD {p : Prop} [Decidable p] {A B : Prop} (h1 : p → A) (h2 : ¬ p → B) : ifB (decide p) A B := by
  by_cases h : p
  · rw [decide_eq_true h]; exact h1 h
  · rw [decide_eq_false h]; exact h2 h
theorem ifN {p : Prop} [Decidable p] {A B : Prop} (h1 : ¬ p → A) (h2 : p → B) : ifB (!decide p) A B := by
  by_cases h : p
  · rw [decide_eq_true h]; exact h2 h
  · rw [decide_eq_false h]; exact h1 h
@[simp] theorem ifB_true {A B : Prop} : ifB true A B = A := rfl
@[simp] theorem ifB_false {A B : Prop} : ifB false A B = B := rfl
theorem ifB_iff {e : Bool} {A B : Prop} : ifB e A B ↔ (e = true → A) ∧ (e = false → B) := by cases e <;> simp [ifB]

theorem size_zero {s : ByteArray} : s = ⟨#[]⟩ ↔ s.size = 0 := by
  cases s with | mk a => simp [ByteArray.size]

@[simp] theorem mk_empty : (⟨#[]⟩ : ByteArray) = ByteArray.empty := rfl
theorem size_pos {s : ByteArray} (h : ¬ s = ByteArray.empty) : 0 < s.size := by
  rcases Nat.eq_zero_or_pos s.size with h1 | h1
  · exact absurd (size_zero.2 h1) h
  · exact h1

theorem inR64 {x : Int} (h : -9223372036854775808 ≤ x ∧ x < 9223372036854775808) : inR .i64 x := h

theorem nth_drop {α : Type} {d : α} {l : List α} {i : Int} (h : i.toNat < l.length) : l.drop i.toNat = nth d l i :: l.drop (i.toNat + 1) := by
  rw [List.drop_eq_getElem_cons h]
  simp [nth, List.getD_eq_getElem?_getD, h]
theorem nth_get {α : Type} {d : α} {l : List α} {i : Int} (h : i.toNat < l.length) : nth d l i = l[i.toNat] := by
  simp [nth, List.getD_eq_getElem?_getD, h]
theorem nth_nat {α : Type} {d : α} {l : List α} {i : Nat} (h : i < l.length) : nth d l (i : Int) = l[i] := by
  simp [nth, List.getD_eq_getElem?_getD, h]
theorem nth_mem {α : Type} {d : α} {l : List α} {i : Int} (h : i.toNat < l.length) : nth d l i ∈ l := by
  rw [nth_get h]; exact List.getElem_mem h
theorem ite_brk {c : Prop} [Decidable c] {V R : Type} {x y : V} {r : R} (h : (if c then LOut.brk x else LOut.ret r) = LOut.brk y) : c ∧ x = y := by
  split at h
  · simp at h; exact ⟨‹_›, h⟩
  · cases h
theorem ite_ret {c : Prop} [Decidable c] {V R : Type} {x : V} {r q : R} (h : (if c then LOut.brk x else LOut.ret r) = LOut.ret q) : ¬ c ∧ r = q := by
  split at h
  · cases h
  · simp at h; exact ⟨‹_›, h⟩
theorem ite_brk' {c : Prop} [Decidable c] {V R : Type} {x y : V} {r : R} (h : (if c then LOut.ret r else LOut.brk x) = LOut.brk y) : ¬ c ∧ x = y := by
  split at h
  · cases h
  · simp at h; exact ⟨‹_›, h⟩
theorem ite_ret' {c : Prop} [Decidable c] {V R : Type} {x : V} {r q : R} (h : (if c then LOut.ret r else LOut.brk x) = LOut.ret q) : c ∧ r = q := by
  split at h
  · simp at h; exact ⟨‹_›, h⟩
  · cases h
theorem take_nth {α : Type} {d : α} {l : List α} {i : Int} (h : i.toNat < l.length) : l.take (i.toNat + 1) = l.take i.toNat ++ [nth d l i] := by
  rw [List.take_succ_eq_append_getElem h, nth_get h]
end Go.AL

namespace Sp
open Go.AL
mutual
def flatT : Tm → List Tm
  | .mk k s ks => .mk k s ks :: flatL ks
def flatL : List Tm → List Tm
  | [] => []
  | t :: l => flatT t ++ flatL l
end
theorem flatT_eq (t : Tm) : flatT t = t :: flatL t.kids := by cases t; rfl
mutual
theorem flatT_rec {p : Tm → Prop} (h : ∀ t, (∀ u ∈ t.kids, p u) → p t) : (t : Tm) → p t
  | .mk k s ks => h (.mk k s ks) (flatL_rec h ks)
theorem flatL_rec {p : Tm → Prop} (h : ∀ t, (∀ u ∈ t.kids, p u) → p t) : (l : List Tm) → ∀ u ∈ l, p u
  | [] => fun u hu => by cases hu
  | t :: l => fun u hu => (List.mem_cons.1 hu).elim (fun e => e ▸ flatT_rec h t) (fun e => flatL_rec h l u e)
end
end Sp
namespace Go.AL
open Go.RowKit
set_option linter.unusedVariables false
set_option linter.unusedSectionVars false
set_option linter.unusedSimpArgs false

namespace TA
def body (f : Nat) : AC := (.seq (.reg [⟨(some 10), none, .bin .lss (.t 9) (.t 8)⟩] [])
      (.seq (.cond (.t 10) (.skip)
        (.exit 0))
       (.seq (.block 1 (.seq (.reg [⟨(some 11), none, .ia 3 (.t 7) (.t 9)⟩, ⟨(some 12), none, .ld true 3 (.t 11)⟩, ⟨(some 6), none, .new [(.int .i64 0), (.str ⟨#[]⟩), (.lst 3 [] .clip)]⟩, ⟨none, none, .st 3 (.t 6) (.t 12)⟩] [])
          (.seq (.reg [⟨(some 13), none, .ld false 1 (.t 1)⟩, ⟨(some 14), none, .ld true 3 (.t 6)⟩, ⟨(some 15), none, .call (.t 13) [(.t 14)]⟩, ⟨(some 16), none, .un .not (.t 15)⟩, ⟨(some 17), none, .mv (.t 16)⟩, ⟨(some 18), (some (17, false)), .ld false 1 (.t 2)⟩, ⟨(some 19), (some (17, false)), .fa 2 1 (.t 6)⟩, ⟨(some 20), (some (17, false)), .ld false 1 (.t 19)⟩, ⟨(some 21), (some (17, false)), .call (.t 18) [(.t 20)]⟩, ⟨(some 22), (some (17, false)), .un .not (.t 21)⟩, ⟨(some 23), none, .pick (.t 17) (.c (.bool true)) (.t 22)⟩] [])
           (.cond (.t 23) (.seq (.reg [⟨(some 4), none, .mv (.c (.bool false))⟩] [])
             (.ret))
            (.skip)))))
        (.reg [⟨(some 24), none, .bin .add (.t 9) (.c (.int .i64 1))⟩, ⟨(some 9), none, .mv (.t 24)⟩] []))))
def tail : AC := (.seq (.reg [⟨(some 4), none, .mv (.c (.bool true))⟩] [])
   (.ret))
def walk (f : Nat) : AC :=
 .seq (.reg [⟨(some 4), none, .mv (.c (.bool false))⟩] [])
 (.seq (.seq (.reg [⟨(some 7), none, .mv (.t 0)⟩, ⟨(some 8), none, .len (.t 7)⟩, ⟨(some 9), none, .mv (.c (.int .i64 0))⟩] [])
   (.block 0 (.loop (body f)))) tail)
def inner (f : Nat) : AC :=
 .seq (.reg [⟨(some 2), none, .box (.t 0)⟩] [])
 (.seq (.reg [⟨(some 3), none, .new [.nilf]⟩] [])
  (.seq (.reg [⟨(some 4), none, .mkf (.func f) [] [(.t 2), (.t 3)]⟩, ⟨none, none, .st 1 (.t 3) (.t 4)⟩] [])
   (.reg [⟨(some 5), none, .ld false 1 (.t 3)⟩, ⟨(some 6), none, .ld false 1 (.t 1)⟩, ⟨(some 7), none, .call (.t 5) [(.t 6)]⟩] [])))
def outer (g : Nat) : AC :=
 .seq (.reg [⟨(some 1), none, .box (.t 0)⟩, ⟨(some 2), none, .mv (.c .nilf)⟩] [])
 (.seq (.reg [⟨(some 3), none, .mkf (.func g) [] [(.t 1)]⟩, ⟨(some 2), none, .mv (.t 3)⟩] [])
  (.ret))

variable {P : Program} {W : World} {f : Nat} {ys : List AV} {J : Nat → AH → AH → Prop} {E : AH → AH → Prop} {y : AV} {b1 b2 : Nat}

structure Law (P : Program) (W : World) (ys : List AV) (J : Nat → AH → AH → Prop) (E : AH → AH → Prop) (y : AV) : Prop where
  le : ∀ k I τ, J k I τ → I.le τ
  grow : ∀ k I τ I' τ', J k I τ → τ.le τ' → I.le I' → I'.le τ' → (∀ c, I' c ≠ none → I c = none → τ c = none) → J k I' τ'
  shr : ∀ k I τ I', J k I τ → I'.le I → J k I' τ
  growE : ∀ I τ τ', E I τ → τ.le τ' → E I τ'
  shrE : ∀ I τ I', E I τ → I'.le I → E I' τ
  step : ∀ k x I τ, ys[k]? = some x → J k I τ → ACallV P W y [x] τ fun v τ' => I.le τ' ∧ ((v = .bool true ∧ J (k + 1) I τ') ∨ (v = .bool false ∧ E I τ'))

def Has (ys : List AV) (k : Nat) (l : List Tm) : Prop := ∀ i x, l[i]? = some x → ys[k + i]? = some (encT x)
theorem Has.app {k : Nat} {a b : List Tm} (h : Has ys k (a ++ b)) : Has ys k a ∧ Has ys (k + a.length) b := by
  refine ⟨fun i x hx => h i x ?_, fun i x hx => ?_⟩
  · rw [List.getElem?_append_left]; exact hx
    rcases Nat.lt_or_ge i a.length with h1 | h1
    · exact h1
    · rw [List.getElem?_eq_none h1] at hx; cases hx
  · have := h (a.length + i) x (by rw [List.getElem?_append_right (by omega)]; simpa using hx)
    rw [← this]; congr 1; omega
theorem Has.cons {k : Nat} {a : Tm} {b : List Tm} (h : Has ys k (a :: b)) : ys[k]? = some (encT a) ∧ Has ys (k + 1) b := by
  have := Has.app (a := [a]) (b := b) h
  exact ⟨by simpa using this.1 0 a rfl, this.2⟩

def Post (J : Nat → AH → AH → Prop) (E : AH → AH → Prop) (k : Nat) (I : AH) (v : AV) (τ : AH) : Prop := I.le τ ∧ ((v = .bool true ∧ J k I τ) ∨ (v = .bool false ∧ E I τ))
def Cells (I : AH) (f b1 b2 : Nat) (y : AV) : Prop := I b1 = some (.cells [y]) ∧ I b2 = some (.cells [.fn (.func f) [] [.ptr b1 0, .ptr b2 0]])
def Call (P : Program) (W : World) (ys : List AV) (J : Nat → AH → AH → Prop) (E : AH → AH → Prop) (y : AV) (f b1 b2 : Nat) (l : List Tm) : Prop :=
  ∀ k I τ tok, Has ys k (Sp.flatL l) → J k I τ → Cells I f b1 b2 y → ACall P W f [.lst 3 (l.map encT) tok, .ptr b1 0, .ptr b2 0] τ (Post J E (k + (Sp.flatL l).length) I)
def EV (b1 b2 : Nat) (L : AV) (n i : Int) : Env := [(1, .ptr b1 0), (2, .ptr b2 0), (7, L), (8, .int .i64 n), (9, .int .i64 i)]

theorem drop_nil (e : Env) : Env.drop e [] = e := by simp [Env.drop]

theorem noRet {kk : Nat} {I : AH} {env : Env} {τ : AH} {K : List AItem} (h : env.get 23 = .bool true) (hI : I.le τ) (hE : E I τ) :
    AW P W none 25 (atEnd [.t 4] (Post J E kk I)) (.c (.cond (.t 23) (.seq (.reg [⟨(some 4), none, .mv (.c (.bool false))⟩] []) .ret) .skip) :: K) env τ [] := by
  refine AW.cond (b := true) (by simpa [ev] using h) ?_
  refine AW.seq (AW.reg ?_)
  simp only [wpOps, wpA, ev, Env.set, drop_nil]
  refine AW.ret ?_
  simp only [atEnd, resW, AH.delAll, one1, Env.get_put_same]
  exact ⟨List.nodup_nil, fun b hb => (by cases hb), hI, .inr ⟨rfl, hE⟩⟩

theorem loop (hL : Law P W ys J E y) (hy : y.cells = [y]) {l : List Tm} (hlen : l.length < 9223372036854775808) (hk : ∀ t ∈ l, Call P W ys J E y f b1 b2 t.kids) {kk : Nat} {I : AH} (hI : Cells I f b1 b2 y) {tok : Tok} :
    ∀ (r : List Tm) (i k : Nat) (τ : AH), l = l.take i ++ r → i ≤ l.length → Has ys k (Sp.flatL r) → k + (Sp.flatL r).length = kk → J k I τ →
      AW P W none 25 (atEnd [.t 4] (Post J E kk I)) [.c (body f), .lp (body f), .blk 0, .c tail] (EV b1 b2 (.lst 3 (l.map encT) tok) l.length i) τ [] := by
  intro r
  induction r with
  | nil =>
    intro i k τ hr hi hh hkk hJ
    have hil : l.length = i := by have := congrArg List.length hr; simp at this; omega
    refine AW.seq (AW.reg ?_)
    simp only [wpOps, wpA, ev, EV, Env.get, Env.set, Env.put, binA, reduceIte, Nat.reduceEqDiff]
    refine ⟨trivial, ?_⟩
    refine AW.seq ?_
    refine AW.cond (b := false) (by simp [ev, Env.get, Env.drop, hil]) ?_
    refine AW.exit (K' := [.c tail]) rfl ?_
    refine AW.seq (AW.reg ?_)
    simp only [wpOps, wpA, ev, Env.set]
    refine AW.ret ?_
    simp only [drop_nil, atEnd, resW, AH.delAll, one1, Env.get_put_same]
    refine ⟨List.nodup_nil, fun b hb => (by cases hb), hL.le _ _ _ hJ, .inl ⟨rfl, ?_⟩⟩
    have : kk = k := by rw [← hkk]; rfl
    rw [this]; exact hJ
  | cons t r ih =>
    intro i k τ hr hi hh hkk hJ
    have hil : i < l.length := by have := congrArg List.length hr; simp at this; omega
    have hget : (l.map encT).getD i .any = encT t := by
      rw [List.getD_eq_getElem?_getD, List.getElem?_map, hr, List.getElem?_append_right (by simp; omega)]
      simp [Nat.min_eq_left (Nat.le_of_lt hil)]
    refine AW.seq (AW.reg ?_)
    simp only [wpOps, wpA, ev, EV, Env.get, Env.set, Env.put, binA, reduceIte, Nat.reduceEqDiff]
    refine ⟨trivial, ?_⟩
    refine AW.seq ?_
    refine AW.cond (b := true) (by simp [ev, Env.get, Env.drop, hil]) ?_
    refine AW.skip (AW.seq (AW.block (AW.seq (AW.reg ?_))))
    simp only [drop_nil, wpOps, wpA, ev, EV, Env.get, Env.set, Env.put, binA, reduceIte, Nat.reduceEqDiff, hget, Int.toNat_natCast]
    refine ⟨trivial, by omega, by simp [hil], ?_⟩
    rw [encT_eq]
    refine ⟨by simp [AV.cells, encN0], ?_⟩
    intro b hb
    simp only [AH.put_same, AV.cells, encN0, List.length_cons, List.length_nil, List.take, setAt]
    refine ⟨trivial, rfl, by decide, ?_⟩
    generalize hτ1 : (τ.put b _).put b _ = τ1
    have hb1 : τ1 b = some (.cells (encN0 t)) := by rw [← hτ1, AH.put_same]; rfl
    have hne : ∀ c, c ≠ b → τ1 c = τ c := fun c hc => by rw [← hτ1, AH.put_ne _ _ hc, AH.put_ne _ _ hc]
    have hle : τ.le τ1 := fun c o hc => by rw [hne c (by rintro rfl; rw [hb] at hc; cases hc)]; exact hc
    have hIτ := hL.le _ _ _ hJ
    have hIb : I b = none := AH.none_le hIτ hb
    obtain ⟨I', hI'⟩ : ∃ x, x = I.put b (.cells (encN0 t)) := ⟨_, rfl⟩
    have hII : I.le I' := fun c o hc => by rw [hI', AH.put_ne _ _ (by rintro rfl; rw [hIb] at hc; cases hc)]; exact hc
    have hI'b : I' b = some (.cells (encN0 t)) := by rw [hI', AH.put_same]
    have hIτ' : I'.le τ1 := fun c o hc => by
      by_cases hcb : c = b
      · subst hcb; rw [hI'b] at hc; cases hc; exact hb1
      · rw [hI', AH.put_ne _ _ hcb] at hc; exact hle _ _ (hIτ _ _ hc)
    have hJ1 : J k I' τ1 := hL.grow _ _ _ _ _ hJ hle hII hIτ' (fun c hc1 hc2 => by
      by_cases hcb : c = b
      · subst hcb; exact hb
      · rw [hI', AH.put_ne _ _ hcb] at hc1; exact absurd hc2 hc1)
    have e1 := hIτ' _ _ (hII _ _ hI.1)
    refine AW.seq (AW.reg ?_)
    rw [wpOps]; simp only [wpA, unA, ev, Env.get, Env.set, Env.put, reduceIte, Nat.reduceEqDiff, reduceCtorEq, List.map, e1]
    refine ⟨by simp, ?_⟩
    simp only [List.getD_cons_zero]
    rw [wpOps]; simp only [wpA, unA, ev, Env.get, Env.set, Env.put, reduceIte, Nat.reduceEqDiff, reduceCtorEq, List.map, hb1]
    refine ⟨by simp [encN0], by simp [encN0, AV.one], ?_⟩
    have hx : AV.agg (List.take 3 (List.drop 0 (encN0 t))) = encT t := by rw [encT_eq]; rfl
    rw [hx]
    rw [Sp.flatL, Sp.flatT_eq] at hh hkk
    obtain ⟨hh1, hh2⟩ := Has.cons hh
    obtain ⟨hh2, hh3⟩ := Has.app hh2
    have htm : t ∈ l := by rw [hr]; simp
    rw [wpOps]; simp only [wpA, unA, ev, Env.get, Env.set, Env.put, reduceIte, Nat.reduceEqDiff, reduceCtorEq, List.map]
    refine wpA_mono_call (hL.step _ _ _ _ hh1 hJ1) fun v τ2 ⟨hv1, hv2⟩ => ?_
    have e2 := hv1 _ _ (hII _ _ hI.2)
    have eb := hv1 _ _ hI'b
    rcases hv2 with ⟨rfl, hJ2⟩ | ⟨rfl, hE2⟩
    · skip
      rw [wpOps]; simp only [wpA, unA, ev, Env.get, Env.set, Env.put, reduceIte, Nat.reduceEqDiff, reduceCtorEq, List.map, Bool.not_true]
      rw [wpOps]; simp only [wpA, unA, ev, Env.get, Env.set, Env.put, reduceIte, Nat.reduceEqDiff, reduceCtorEq, List.map]
      rw [wpOps]; simp only [wpA, unA, ev, Env.get, Env.set, Env.put, reduceIte, Nat.reduceEqDiff, reduceCtorEq, List.map, e2]
      refine ⟨by simp, ?_⟩
      simp only [List.getD_cons_zero]
      rw [wpOps]; simp only [wpA, unA, ev, Env.get, Env.set, Env.put, reduceIte, Nat.reduceEqDiff, reduceCtorEq, List.map]
      rw [wpOps]; simp only [wpA, unA, ev, Env.get, Env.set, Env.put, reduceIte, Nat.reduceEqDiff, reduceCtorEq, List.map, eb]
      refine ⟨by simp [encN0], ?_⟩
      have hkd : (encN0 t).getD (0 + 2) .any = .lst 3 (t.kids.map encT) .none := rfl
      rw [hkd]
      rw [wpOps]; simp only [wpA, unA, ev, Env.get, Env.set, Env.put, reduceIte, Nat.reduceEqDiff, reduceCtorEq, List.map]
      refine wpA_mono_call (show ACallV P W (AV.fn (Fn.func f) [] [AV.ptr b1 0, AV.ptr b2 0]) [AV.lst 3 (List.map encT t.kids) Tok.none] τ2 _ from hk t htm (k + 1) I' τ2 .none hh2 hJ2 ⟨hII _ _ hI.1, hII _ _ hI.2⟩) fun v τ3 ⟨hv3, hv4⟩ => ?_
      rcases hv4 with ⟨rfl, hJ3⟩ | ⟨rfl, hE3⟩
      · skip
        rw [wpOps]; simp only [wpA, unA, ev, Env.get, Env.set, Env.put, reduceIte, Nat.reduceEqDiff, reduceCtorEq, List.map, Bool.not_true]
        rw [wpOps]; simp only [wpA, unA, ev, Env.get, Env.set, Env.put, reduceIte, Nat.reduceEqDiff, reduceCtorEq, List.map]
        rw [wpOps]
        refine AW.cond (b := false) (by simp [ev, Env.get, Env.drop]) ?_
        refine AW.skip (AW.blk (AW.reg ?_))
        simp only [drop_nil]
        rw [wpOps]; simp only [wpA, unA, ev, Env.get, Env.set, Env.put, reduceIte, Nat.reduceEqDiff, reduceCtorEq, List.map, binA]
        refine ⟨trivial, ?_⟩
        rw [wpOps]; simp only [wpA, unA, ev, Env.get, Env.set, Env.put, reduceIte, Nat.reduceEqDiff, reduceCtorEq, List.map]
        rw [wpOps]
        refine AW.lp (AW.forget (env' := EV b1 b2 (.lst 3 (l.map encT) tok) l.length ((i + 1 : Nat) : Int)) (fun u => ?_) (ih (i + 1) _ τ3 ?_ hil ?_ ?_ (hL.shr _ _ _ _ hJ3 hII)))
        · have ew : IntKind.i64.wrap ((i : Int) + 1) = ((i + 1 : Nat) : Int) := by rw [inR_wrap (inR64 (by omega))]; omega
          simp only [drop_nil, EV, Env.get, ew]
          by_cases h1 : 1 = u
          · simp [h1]
          by_cases h2 : 2 = u
          · simp [h2]
          by_cases h7 : 7 = u
          · subst h7; simp
          by_cases h8 : 8 = u
          · subst h8; simp
          by_cases h9 : 9 = u
          · subst h9; simp
          simp [h1, h2, h7, h8, h9]
        · have e3 : List.take (i + 1) l = List.take i l ++ [t] := by
            rw [List.take_add_one]; congr 1
            rw [hr, List.getElem?_append_right (by simp; omega)]
            simp [Nat.min_eq_left (Nat.le_of_lt hil)]
          rw [e3]; simpa using hr
        · exact hh3
        · simp at hkk; omega
      · skip
        rw [wpOps]; simp only [wpA, unA, ev, Env.get, Env.set, Env.put, reduceIte, Nat.reduceEqDiff, reduceCtorEq, List.map, Bool.not_false]
        rw [wpOps]; simp only [wpA, unA, ev, Env.get, Env.set, Env.put, reduceIte, Nat.reduceEqDiff, reduceCtorEq, List.map]
        rw [wpOps]
        exact noRet (by simp [Env.get, Env.drop]) (AH.le_trans hII hv3) (hL.shrE _ _ _ hE3 hII)
    · skip
      rw [wpOps]; simp only [wpA, unA, ev, Env.get, Env.set, Env.put, reduceIte, Nat.reduceEqDiff, reduceCtorEq, List.map, Bool.not_false]
      rw [wpOps]; simp only [wpA, unA, ev, Env.get, Env.set, Env.put, reduceIte, Nat.reduceEqDiff, reduceCtorEq, List.map]
      rw [wpOps]; simp only [wpA, unA, ev, Env.get, Env.set, Env.put, reduceIte, Nat.reduceEqDiff, reduceCtorEq, List.map]
      rw [wpOps]; simp only [wpA, unA, ev, Env.get, Env.set, Env.put, reduceIte, Nat.reduceEqDiff, reduceCtorEq, List.map]
      rw [wpOps]; simp only [wpA, unA, ev, Env.get, Env.set, Env.put, reduceIte, Nat.reduceEqDiff, reduceCtorEq, List.map]
      rw [wpOps]; simp only [wpA, unA, ev, Env.get, Env.set, Env.put, reduceIte, Nat.reduceEqDiff, reduceCtorEq, List.map]
      rw [wpOps]; simp only [wpA, unA, ev, Env.get, Env.set, Env.put, reduceIte, Nat.reduceEqDiff, reduceCtorEq, List.map]
      rw [wpOps]; simp only [wpA, unA, ev, Env.get, Env.set, Env.put, reduceIte, Nat.reduceEqDiff, reduceCtorEq, List.map]
      rw [wpOps]
      exact noRet (by simp [Env.get, Env.drop]) (AH.le_trans hII hv1) (hL.shrE _ _ _ hE2 hII)

theorem walk_of (hc : codeOf P f = some (25, [.t 4], walk f)) (hL : Law P W ys J E y) (hy : y.cells = [y]) {l : List Tm} (hk : ∀ t ∈ l, Call P W ys J E y f b1 b2 t.kids) : Call P W ys J E y f b1 b2 l := by
  intro k I τ tok hh hJ hI
  obtain ⟨fn, c, h1, h2, h3, h4, h5, h6⟩ := codeOf_spec hc
  refine acall_of h1 h2 h3 h4 h5 (by rw [h6]; simp) ?_
  rw [h6]
  refine AW.seq (AW.reg ?_)
  rw [wpOps]; simp only [wpA, ev, argEnv, Env.get, Env.set, Env.put, reduceIte, Nat.reduceEqDiff, Nat.reduceAdd, reduceCtorEq, Nat.zero_add]
  rw [wpOps, drop_nil]
  refine AW.seq (AW.seq (AW.reg ?_))
  rw [wpOps]; simp only [wpA, ev, argEnv, Env.get, Env.set, Env.put, reduceIte, Nat.reduceEqDiff, Nat.reduceAdd, reduceCtorEq]
  rw [wpOps]; simp only [wpA, ev, argEnv, Env.get, Env.set, Env.put, reduceIte, Nat.reduceEqDiff, Nat.reduceAdd, reduceCtorEq]
  intro hlen
  rw [wpOps]; simp only [wpA, ev, argEnv, Env.get, Env.set, Env.put, reduceIte, Nat.reduceEqDiff, Nat.reduceAdd, reduceCtorEq]
  rw [wpOps, drop_nil]
  rw [List.length_map] at hlen ⊢
  refine AW.block (AW.loop (AW.forget (env' := EV b1 b2 (.lst 3 (l.map encT) tok) l.length ((0 : Nat) : Int)) (fun u => ?_) (loop hL hy hlen hk hI l 0 k τ rfl (Nat.zero_le _) hh rfl hJ)))
  simp only [EV, Env.get]
  by_cases h1 : 1 = u
  · subst h1; simp
  by_cases h2 : 2 = u
  · subst h2; simp
  by_cases h7 : 7 = u
  · subst h7; simp
  by_cases h8 : 8 = u
  · subst h8; simp
  by_cases h9 : 9 = u
  · subst h9; simp
  simp [h1, h2, h7, h8, h9]

theorem walk_ok (hc : codeOf P f = some (25, [.t 4], walk f)) (hL : Law P W ys J E y) (hy : y.cells = [y]) (l : List Tm) : Call P W ys J E y f b1 b2 l :=
  walk_of hc hL hy fun t ht => Sp.flatT_rec (p := fun t => Call P W ys J E y f b1 b2 t.kids) (fun u hu => walk_of hc hL hy hu) t

theorem encM (l : List Tm) : @List.map (El (.nm 0)) AV (encE (.nm 0)) l = l.map encT := by
  have : (encE (Ty.nm 0) : Tm → AV) = encT := funext fun t => (encT_eq t).symm
  exact congrArg (fun f => List.map f l) this

theorem iter_ok {g : Nat} {b : Nat} {l : List Tm} {tok : Tok} {fz : AH} (hc : codeOf P f = some (25, [.t 4], walk f)) (hg : codeOf P g = some (8, [], inner f)) (hfz : fz b = some (.cells [.lst 3 (l.map encT) tok])) :
    IterOK P W fz (.fn (.func g) [] [.ptr b 0]) ((Sp.flatL l).map encT) := by
  refine ⟨g, [], [.ptr b 0], rfl, ?_⟩
  intro J E y σ hy h1 h2 h3 h4 h5 h6 h7
  have hL : Law P W ((Sp.flatL l).map encT) J E y := ⟨h1, h2, h3, h4, h5, h7⟩
  obtain ⟨fn, c, e1, e2, e3, e4, e5, e6⟩ := codeOf_spec hg
  refine acall_of e1 e2 e3 e4 e5 (by rw [e6]; simp) ?_
  rw [e6]
  have hy : y.ok = true ∧ y.cells = [y] := by obtain ⟨_, _, _, rfl⟩ := hy; exact ⟨rfl, rfl⟩
  refine AW.seq (AW.reg ?_)
  rw [wpOps]; simp only [wpA, ev, argEnv, Env.get, Env.set, Env.put, reduceIte, Nat.reduceEqDiff, Nat.reduceAdd, reduceCtorEq, List.nil_append, List.cons_append, hy]
  refine ⟨trivial, ?_⟩
  intro b1 hb1
  rw [wpOps, drop_nil]
  refine AW.seq (AW.reg ?_)
  rw [wpOps]; simp only [wpA, ev, argEnv, Env.get, Env.set, Env.put, reduceIte, Nat.reduceEqDiff, Nat.reduceAdd, reduceCtorEq]
  intro b2 hb2
  rw [wpOps, drop_nil]
  refine AW.seq (AW.reg ?_)
  rw [wpOps]; simp only [wpA, ev, argEnv, Env.get, Env.set, Env.put, reduceIte, Nat.reduceEqDiff, Nat.reduceAdd, reduceCtorEq, List.map, AH.put_same]
  rw [wpOps]; simp only [wpA, ev, argEnv, Env.get, Env.set, Env.put, reduceIte, Nat.reduceEqDiff, Nat.reduceAdd, reduceCtorEq, List.map, AH.put_same]
  refine ⟨rfl, rfl, by simp, ?_⟩
  generalize hσ3 : (AH.put (AH.put (σ.put b1 _) b2 _) b2 _) = σ3
  have hc12 : b1 ≠ b2 := by rintro rfl; rw [AH.put_same] at hb2; cases hb2
  have hs2 : σ b2 = none := by rw [AH.put_ne _ _ hc12.symm] at hb2; exact hb2
  have k1 : σ3 b1 = some (.cells [y]) := by rw [← hσ3, AH.put_ne _ _ hc12, AH.put_ne _ _ hc12, AH.put_same]
  have k2 : σ3 b2 = some (.cells [.fn (.func f) [] [.ptr b1 0, .ptr b2 0]]) := by rw [← hσ3, AH.put_same]; rfl
  have hne : ∀ c, c ≠ b1 → c ≠ b2 → σ3 c = σ c := fun c g1 g2 => by rw [← hσ3, AH.put_ne _ _ g2, AH.put_ne _ _ g2, AH.put_ne _ _ g1]
  have hle : σ.le σ3 := fun c o hc => by rw [hne c (by rintro rfl; rw [hb1] at hc; cases hc) (by rintro rfl; rw [hs2] at hc; cases hc)]; exact hc
  have hfσ := h1 _ _ _ h6
  obtain ⟨I', hI'⟩ : ∃ x, x = AH.put (AH.put fz b1 (.cells [y])) b2 (.cells [.fn (.func f) [] [.ptr b1 0, .ptr b2 0]]) := ⟨_, rfl⟩
  have j1 : I' b1 = some (.cells [y]) := by rw [hI', AH.put_ne _ _ hc12, AH.put_same]
  have j2 : I' b2 = some (.cells [.fn (.func f) [] [.ptr b1 0, .ptr b2 0]]) := by rw [hI', AH.put_same]
  have jne : ∀ c, c ≠ b1 → c ≠ b2 → I' c = fz c := fun c g1 g2 => by rw [hI', AH.put_ne _ _ g2, AH.put_ne _ _ g1]
  have hf1 : fz b1 = none := AH.none_le hfσ hb1
  have hf2 : fz b2 = none := AH.none_le hfσ hs2
  have hfI : fz.le I' := fun c o hc => by rw [jne c (by rintro rfl; rw [hf1] at hc; cases hc) (by rintro rfl; rw [hf2] at hc; cases hc)]; exact hc
  have hI3 : I'.le σ3 := fun c o hc => by
    by_cases g1 : c = b1
    · subst g1; rw [j1] at hc; cases hc; exact k1
    by_cases g2 : c = b2
    · subst g2; rw [j2] at hc; cases hc; exact k2
    · rw [jne c g1 g2] at hc; exact hle _ _ (hfσ _ _ hc)
  have hJ : J 0 I' σ3 := h2 _ _ _ _ _ h6 hle hfI hI3 fun c g3 g4 => by
    by_cases g1 : c = b1
    · subst g1; exact hb1
    by_cases g2 : c = b2
    · subst g2; exact hs2
    · rw [jne c g1 g2] at g3; exact absurd g4 g3
  have hb3 : σ3 b = some (.cells [.lst 3 (l.map encT) tok]) := hle _ _ (hfσ _ _ hfz)
  rw [wpOps, drop_nil]
  refine AW.reg ?_
  rw [wpOps]; simp only [wpA, ev, argEnv, Env.get, Env.set, Env.put, reduceIte, Nat.reduceEqDiff, Nat.reduceAdd, reduceCtorEq, List.map, AH.put_same, k2]
  refine ⟨by simp, ?_⟩
  simp only [List.getD_cons_zero]
  rw [wpOps]; simp only [wpA, ev, argEnv, Env.get, Env.set, Env.put, reduceIte, Nat.reduceEqDiff, Nat.reduceAdd, reduceCtorEq, List.map, AH.put_same, hb3]
  refine ⟨by simp, ?_⟩
  simp only [List.getD_cons_zero]
  rw [wpOps]; simp only [wpA, ev, argEnv, Env.get, Env.set, Env.put, reduceIte, Nat.reduceEqDiff, Nat.reduceAdd, reduceCtorEq, List.map, AH.put_same]
  refine wpA_mono_call (show ACallV P W (AV.fn (Fn.func f) [] [AV.ptr b1 0, AV.ptr b2 0]) [AV.lst 3 (List.map encT l) tok] σ3 _ from walk_ok hc hL hy.2 l 0 I' σ3 tok (fun i x hx => ?_) hJ ⟨j1, j2⟩) fun v τ ⟨g1, g2⟩ => ?_
  · rw [List.getElem?_map, Nat.zero_add, hx]; rfl
  · rw [wpOps, drop_nil]
    refine AW.fin ?_
    simp only [atEnd, resW, AH.delAll]
    refine ⟨List.nodup_nil, fun b hb => (by cases hb), ?_⟩
    rcases g2 with ⟨_, g2⟩ | ⟨_, g2⟩
    · left; rw [List.length_map]; rw [Nat.zero_add] at g2; exact h3 _ _ _ _ g2 hfI
    · right; exact h5 _ _ _ g2 hfI

/-- The contract of term.all. -/
def C : Ctr where
  pv _ := none
  run vs st K := match asTs [.lst (.nm 0)] vs with
    | some l => K (.iter (.nm 0) (Sp.flatL l)) st
    | none => False

theorem ok {f g h : Nat} (hf : codeOf P f = some (25, [.t 4], walk f)) (hg : codeOf P g = some (8, [], inner f)) (hh : codeOf P h = some (4, [.t 2], outer g)) : CtrOK P W h C := by
  constructor
  · intro vs pv hpv; cases hpv
  · intro vs st K hrun fr0 w σ ds as hH hr
    simp only [C] at hrun
    split at hrun
    case h_2 => exact hrun.elim
    rename_i l ha
    have has := asTs_rel _ _ _ _ ha hr
    obtain ⟨tok, rfl⟩ : ∃ tok, as = [.lst 3 (l.map encT) tok] := by
      match as, has with
      | [a], has =>
        have h2 : [a.bare] = [encE (.lst (.nm 0)) l] := has
        have h1 := (List.cons.inj h2).1
        have h4 : encE (.lst (.nm 0)) l = .lst 3 (l.map encT) .none := congrArg (fun x => AV.lst 3 x Tok.none) (encM l)
        rw [h4] at h1
        cases a <;> first | (cases h1; done) | skip
        rename_i sz xs tk
        injection h1 with h5 h6
        exact ⟨tk, by rw [h5, h6]⟩
      | [], has => simp [encTs] at has
      | _ :: _ :: _, has => simp [encTs] at has
    obtain ⟨fn, c, e1, e2, e3, e4, e5, e6⟩ := codeOf_spec hh
    refine acall_of e1 e2 e3 e4 e5 (by rw [e6]; simp) ?_
    rw [e6]
    refine AW.seq (AW.reg ?_)
    rw [wpOps]; simp only [wpA, ev, argEnv, Env.get, Env.set, Env.put, reduceIte, Nat.reduceEqDiff, Nat.reduceAdd, reduceCtorEq, List.map, AH.put_same]
    refine ⟨rfl, ?_⟩
    intro b hb
    rw [wpOps]; simp only [wpA, ev, argEnv, Env.get, Env.set, Env.put, reduceIte, Nat.reduceEqDiff, Nat.reduceAdd, reduceCtorEq, List.map, AH.put_same]
    rw [wpOps, drop_nil]
    refine AW.seq (AW.reg ?_)
    rw [wpOps]; simp only [wpA, ev, argEnv, Env.get, Env.set, Env.put, reduceIte, Nat.reduceEqDiff, Nat.reduceAdd, reduceCtorEq, List.map, AH.put_same]
    rw [wpOps]; simp only [wpA, ev, argEnv, Env.get, Env.set, Env.put, reduceIte, Nat.reduceEqDiff, Nat.reduceAdd, reduceCtorEq, List.map, AH.put_same]
    rw [wpOps, drop_nil]
    refine AW.ret ?_
    simp only [atEnd, resW, AH.delAll, one1, Env.get, reduceIte, Nat.reduceEqDiff]
    refine ⟨List.nodup_nil, fun b hb => (by cases hb), ?_⟩
    have hle : σ.le (σ.put b (.cells (AV.cells (.lst 3 (l.map encT) tok)))) := AH.le_put_of (AH.le_refl _) hb
    generalize hσ' : σ.put b (.cells (AV.cells (.lst 3 (l.map encT) tok))) = σ' at hle ⊢
    have hwb : w.fr b = none := AH.none_le hH.fr hb
    have hbb : σ' b = some (.cells [.lst 3 (l.map encT) tok]) := by rw [← hσ', AH.put_same]; rfl
    have hF : w.fr.le (w.fr.put b (.cells [.lst 3 (l.map encT) tok])) := AH.le_put_of (AH.le_refl _) hwb
    refine ⟨_, st, { w with fr := w.fr.put b (.cells [.lst 3 (l.map encT) tok]) }, hrun, rfl, (hH.grow hle).upfr (fun c o hc => ?_) hF (fun c hc1 hc2 => ?_), ?_, ⟨fun _ _ => rfl, fun _ _ => rfl, rfl, hF⟩, Nat.le_refl _⟩
    · by_cases g1 : c = b
      · subst g1; rw [AH.put_same] at hc; cases hc; exact hbb
      · rw [AH.put_ne _ _ g1] at hc; exact hle _ _ (hH.fr _ _ hc)
    · have g1 : c = b := by
        by_cases g1 : c = b
        · exact g1
        · rw [AH.put_ne _ _ g1] at hc1; exact absurd hc2 hc1
      subst g1
      refine ⟨fun x o hx e => ?_, fun i hi => ?_, fun o ho => ?_⟩
      · obtain ⟨ao, k1, k2⟩ := hH.obj x o hx
        rw [e, hb] at k1; cases k1
      · have hlv := hH.live i hi
        cases ht : w.tk i with
        | none => rfl
        | clip => rfl
        | own b' e lim =>
          rw [ht] at hlv
          by_cases g2 : b' = c
          · subst g2
            have : σ b' = some (.row e lim) := hlv
            rw [hb] at this; cases this
          · simpa [Tok.isOn] using g2
      · have := (hH.lrec c o ho).1
        rw [hb] at this; cases this
    · refine ⟨_, AH.le_refl _, ?_⟩
      rw [encM]
      exact iter_ok hf hg (AH.put_same _ _ _)
end TA
end Go.AL

namespace Go.AL
open Go.RowKit
set_option linter.unusedVariables false
set_option linter.unusedSectionVars false
set_option linter.unusedSimpArgs false

theorem EnvR.freeze {F F' : Gh} {n t : Nat} {env : Env} {tmps : Array Value} {x y : AV} (h : EnvR F n env tmps) (hF : F.le F') (ht : env.get t = x) (hx : x ≠ .any) (hxy : ∀ v, Rel F x v → Rel F' y v) : EnvR F' n (env.put t y) tmps := by
  refine ⟨h.1, fun u hu => ?_⟩
  by_cases hut : u = t
  · subst hut
    rw [Env.get_put_same]
    obtain ⟨v, h1, h2⟩ := h.2 u (by rw [ht]; exact hx)
    rw [ht] at h2
    exact ⟨v, h1, hxy v h2⟩
  · rw [Env.get_put_ne _ _ hut] at hu ⊢
    obtain ⟨v, h1, h2⟩ := h.2 u hu
    exact ⟨v, h1, h2.mono hF⟩

/-- A block of one's own becomes immutable: its slice is a list. -/
theorem AW.freeze {P : Program} {w₀ : World} {ro : Option Nat} {n : Nat} {Q : Out → Env → AH → List Nat → Prop} {K : List AItem} {env : Env} {σ : AH} {ds : List Nat} {t b sz len c : Nat} {vs rest xs : List AV}
    (ht : env.get t = .slc sz b 0 len c) (hb : σ b = some (.cells vs)) (hw : ∀ F us, RelL F vs us → RelL F (xs.flatMap AV.cells ++ rest) us) (ho : (xs.flatMap AV.cells).all AV.one = true)
    (hs : ∀ x ∈ xs, x.cells.length = sz) (hl : xs.length = len) (hlc : len ≤ c) (hm : c < 9223372036854775808)
    (h : AW P w₀ ro n Q K (env.put t (.lst sz xs .none)) (σ.del b) ds) : AW P w₀ ro n Q K env σ ds := by
  intro todo hT F a w he hd hI
  obtain ⟨us, T, hg, hr⟩ := hI.obj _ _ hb
  have hap := hI.apart _ _ hb
  have hrr := hw F us hr
  obtain ⟨m, hm'⟩ : ∃ m, m = (xs.flatMap AV.cells).length := ⟨_, rfl⟩
  have hr1 : RelL F (xs.flatMap AV.cells) (us.take m) := by
    have := hrr.take m
    rw [hm', List.take_left] at this; rw [hm']; exact this
  obtain ⟨F', hF'⟩ : ∃ F' : Gh, F' = fun b' i => if b' = b then (us.take m)[i]? else F b' i := ⟨_, rfl⟩
  have hle : F.le F' := fun b' i v hv => by
    have : b' ≠ b := by rintro rfl; rw [hap i] at hv; cases hv
    rw [hF']; simp [this, hv]
  have hI' : Inv w₀ F' (σ.del b) w := by
    refine ⟨fun b' i v hv => ?_, fun b' o ho' => ?_, fun b' o ho' => ?_, fun b' o ho' => ?_, hI.base⟩
    · by_cases hbb : b' = b
      · subst hbb
        rw [hF'] at hv; simp only [if_true] at hv
        have hv2 : us[i]? = some v := by
          rw [List.getElem?_take] at hv
          split at hv
          · exact hv
          · cases hv
        have hi : i < us.length := by
          rcases Nat.lt_or_ge i us.length with h1 | h1
          · exact h1
          · rw [List.getElem?_eq_none h1] at hv2; cases hv2
        rw [List.getElem?_eq_getElem hi] at hv2
        simp only [Option.some.injEq] at hv2
        simp [World.cell?, hg, hi, hv2]
      · rw [hF'] at hv; simp only [hbb, if_false] at hv
        exact hI.imm _ _ _ hv
    · have hbb : b' ≠ b := by rintro rfl; simp [AH.del] at ho'
      simp only [AH.del, hbb, if_false] at ho'
      exact (hI.obj _ _ ho').mono hle
    · have hbb : b' ≠ b := by rintro rfl; simp [AH.del] at ho'
      simp only [AH.del, hbb, if_false] at ho'
      have := hI.apart _ _ ho'
      rw [hF']
      cases o <;> simp only [AObj.free, hbb, if_false] at this ⊢ <;> exact this
    · have hbb : b' ≠ b := by rintro rfl; simp [AH.del] at ho'
      simp only [AH.del, hbb, if_false] at ho'
      exact hI.new _ _ ho'
  have he' : EnvR F' n (env.put t (.lst sz xs .none)) a.tmps := he.freeze hle ht (by simp) fun v hv => by
    cases hv
    refine .lst (us := us.take m) ho (hr1.mono hle) (fun i u hu => ?_) hs hlc hm trivial hl
    rw [hF']; simp only [if_true, Nat.zero_add]; exact hu
  intro b' cs hro
  obtain ⟨o, a', w', ⟨F2, env2, σ2, ds2, g1, g2⟩, g3⟩ := h todo hT F' a w he' hd hI' b' cs hro
  exact ⟨o, a', w', ⟨F2, env2, σ2, ds2, Gh.le_trans hle g1, g2⟩, g3⟩

namespace TC
def clone : AC :=
 .seq (.reg [⟨(some 2), none, .mv (.c (.lst 3 [] .clip))⟩] [])
 (.seq (.seq (.reg [⟨(some 3), none, .mv (.t 0)⟩, ⟨(some 4), none, .nilq false (.t 3)⟩] [])
   (.cond (.t 4) (.seq (.reg [⟨(some 2), none, .mv (.c (.lst 3 [] .clip))⟩] [])
     (.ret))
    (.skip)))
  (.seq (.reg [⟨(some 5), none, .bsl 3 0 (.agg [(.int .i64 0), (.str ⟨#[]⟩), (.lst 3 [] .clip)]) []⟩, ⟨(some 6), none, .mv (.t 0)⟩, ⟨(some 7), none, .app 3 (.t 5) (.t 6)⟩, ⟨(some 2), none, .mv (.t 7)⟩] [])
   (.ret)))
def body (f : Nat) : AC := (.seq (.reg [⟨(some 10), none, .bin .lss (.t 9) (.t 8)⟩] [])
       (.seq (.cond (.t 10) (.skip)
         (.exit 0))
        (.seq (.block 1 (.seq (.reg [⟨(some 11), none, .mv (.t 9)⟩, ⟨(some 4), none, .mv (.t 11)⟩] [])
           (.reg [⟨(some 12), none, .mv (.t 3)⟩, ⟨(some 13), none, .mv (.t 4)⟩, ⟨(some 14), none, .mv (.t 3)⟩, ⟨(some 15), none, .mv (.t 4)⟩, ⟨(some 16), none, .ia 3 (.t 14) (.t 15)⟩, ⟨(some 17), none, .fa 2 1 (.t 16)⟩, ⟨(some 18), none, .ld false 1 (.t 17)⟩, ⟨(some 19), none, .call (.c (.fn (.func f) [] [])) [(.t 18)]⟩, ⟨(some 20), none, .ia 3 (.t 12) (.t 13)⟩, ⟨(some 21), none, .fa 2 1 (.t 20)⟩, ⟨none, none, .st 1 (.t 21) (.t 19)⟩] [])))
         (.reg [⟨(some 22), none, .bin .add (.t 9) (.c (.int .i64 1))⟩, ⟨(some 9), none, .mv (.t 22)⟩] []))))
def tail : AC := (.seq (.reg [⟨(some 23), none, .mv (.t 3)⟩, ⟨(some 2), none, .mv (.t 23)⟩] [])
    (.ret))
def copy (f g : Nat) : AC :=
 .seq (.reg [⟨(some 2), none, .mv (.c (.lst 3 [] .clip))⟩] [])
 (.seq (.reg [⟨(some 5), none, .mv (.t 0)⟩, ⟨(some 6), none, .call (.c (.fn (.func g) [] [])) [(.t 5)]⟩, ⟨(some 3), none, .mv (.t 6)⟩] [])
  (.seq (.seq (.reg [⟨(some 7), none, .mv (.t 3)⟩, ⟨(some 8), none, .len (.t 7)⟩, ⟨(some 9), none, .mv (.c (.int .i64 0))⟩] [])
    (.block 0 (.loop (body f)))) tail))

variable {P : Program} {W : World} {f g : Nat}

def EVc (b c n i : Nat) : Env := [(3, .slc 3 b 0 n c), (7, .slc 3 b 0 n c), (8, .int .i64 n), (9, .int .i64 i)]

def ClonePost (σ : AH) (xs : List AV) (v : AV) (σ' : AH) : Prop :=
  σ.le σ' ∧ ((xs = [] ∧ ∃ t, v = .lst 3 [] t) ∨ (xs ≠ [] ∧ ∃ b c, σ b = none ∧ v = .slc 3 b 0 xs.length c ∧ xs.length ≤ c ∧ c < 9223372036854775808 ∧ σ' b = some (.cells (xs.flatMap AV.cells ++ List.replicate ((c - xs.length) * 3) .any))))

theorem clone_ok (hc : codeOf P g = some (8, [.t 2], clone)) {xs : List AV} {tok : Tok} (hlen : xs.length ≤ 8589934592) (σ : AH) : ACall P W g [.lst 3 xs tok] σ (ClonePost σ xs) := by
  obtain ⟨fn, c, e1, e2, e3, e4, e5, e6⟩ := codeOf_spec hc
  refine acall_of e1 e2 e3 e4 e5 (by rw [e6]; simp) ?_
  rw [e6]
  refine AW.seq (AW.reg ?_)
  rw [wpOps]; simp only [wpA, unA, ev, argEnv, EVc, Env.get, Env.set, Env.put, reduceIte, Nat.reduceEqDiff, Nat.reduceAdd, reduceCtorEq, List.map]
  rw [wpOps, TA.drop_nil]
  refine AW.seq (AW.seq (AW.reg ?_))
  rw [wpOps]; simp only [wpA, unA, ev, argEnv, EVc, Env.get, Env.set, Env.put, reduceIte, Nat.reduceEqDiff, Nat.reduceAdd, reduceCtorEq, List.map]
  rw [wpOps]; simp only [wpA, unA, ev, argEnv, EVc, Env.get, Env.set, Env.put, reduceIte, Nat.reduceEqDiff, Nat.reduceAdd, reduceCtorEq, List.map]
  intro nb hnb
  rw [wpOps, TA.drop_nil]
  have hb : ∀ b : Bool, (false != b) = b := by decide
  rw [hb]
  refine AW.cond (b := nb) (by simp [ev, Env.get]) ?_
  cases nb with
  | true =>
    have hx : xs = [] := by
      by_cases h : xs = []
      · exact h
      · have := hnb h; cases this
    refine AW.seq (AW.reg ?_)
    rw [wpOps]; simp only [wpA, unA, ev, argEnv, EVc, Env.get, Env.set, Env.put, reduceIte, Nat.reduceEqDiff, Nat.reduceAdd, reduceCtorEq, List.map]
    rw [wpOps, TA.drop_nil]
    refine AW.ret ?_
    simp only [atEnd, resW, AH.delAll, one1, Env.get, reduceIte, Nat.reduceEqDiff]
    exact ⟨List.nodup_nil, fun b hb => (by cases hb), AH.le_refl _, .inl ⟨hx, .clip, rfl⟩⟩
  | false =>
    refine AW.skip (AW.seq (AW.reg ?_))
    rw [wpOps]; simp only [wpA, unA, ev, argEnv, EVc, Env.get, Env.set, Env.put, reduceIte, Nat.reduceEqDiff, Nat.reduceAdd, reduceCtorEq, List.map, putElems, List.replicate]
    refine ⟨rfl, rfl, ?_⟩
    rw [wpOps]; simp only [wpA, unA, ev, argEnv, EVc, Env.get, Env.set, Env.put, reduceIte, Nat.reduceEqDiff, Nat.reduceAdd, reduceCtorEq, List.map]
    rw [wpOps]; simp only [wpA, unA, ev, argEnv, EVc, Env.get, Env.set, Env.put, reduceIte, Nat.reduceEqDiff, Nat.reduceAdd, reduceCtorEq, List.map]
    refine ⟨trivial, trivial, trivial, by simpa using hlen, ?_⟩
    by_cases hx : xs = []
    · left
      intro t' σ' ha
      rw [wpOps]; simp only [wpA, unA, ev, argEnv, EVc, Env.get, Env.set, Env.put, reduceIte, Nat.reduceEqDiff, Nat.reduceAdd, reduceCtorEq, List.map]
      rw [wpOps, TA.drop_nil]
      refine AW.ret ?_
      simp only [atEnd, resW, AH.delAll, one1, Env.get, reduceIte, Nat.reduceEqDiff]
      refine ⟨List.nodup_nil, fun b hb => (by cases hb), fun c o hc => ha.kept c o hc rfl, .inl ⟨hx, t', by rw [hx]; rfl⟩⟩
    · right
      refine ⟨trivial, trivial, hx, fun b c hb hc hc2 => ?_⟩
      rw [wpOps]; simp only [wpA, unA, ev, argEnv, EVc, Env.get, Env.set, Env.put, reduceIte, Nat.reduceEqDiff, Nat.reduceAdd, reduceCtorEq, List.map]
      rw [wpOps, TA.drop_nil]
      refine AW.ret ?_
      simp only [atEnd, resW, AH.delAll, one1, Env.get, reduceIte, Nat.reduceEqDiff]
      exact ⟨List.nodup_nil, fun b hb => (by cases hb), AH.le_put _ hb, .inr ⟨hx, b, c, hb, rfl, hc, hc2, AH.put_same _ _ _⟩⟩

def Post (σ : AH) (l : List Tm) (v : AV) (σ' : AH) : Prop := (∃ t, v = .lst 3 (l.map encT) t) ∧ σ.le σ'
def Copied (P : Program) (W : World) (f : Nat) (l : List Tm) : Prop :=
  ∀ σ tok, (Sp.flatL l).length ≤ 8589934592 → ACall P W f [.lst 3 (l.map encT) tok] σ (Post σ l)

theorem flat_len : ∀ l : List Tm, l.length ≤ (Sp.flatL l).length
  | [] => Nat.le_refl _
  | t :: l => by
    have := flat_len l
    simp only [Sp.flatL, Sp.flatT_eq, List.length_append, List.length_cons]; omega
theorem flat_mem {t : Tm} : ∀ {l : List Tm}, t ∈ l → (Sp.flatL t.kids).length ≤ (Sp.flatL l).length
  | u :: l, h => by
    simp only [Sp.flatL, Sp.flatT_eq, List.length_append, List.length_cons]
    rcases List.mem_cons.1 h with rfl | h
    · omega
    · have := flat_mem h; omega
theorem cells_at : ∀ (l : List Tm) (i : Nat) (t : Tm), l[i]? = some t → (l.flatMap encN0)[i * 3 + 2]? = some (.lst 3 (t.kids.map encT) .none)
  | [], i, t, h => by cases h
  | u :: l, 0, t, h => by cases h; rfl
  | u :: l, i + 1, t, h => by
    have := cells_at l i t (by simpa using h)
    rw [List.flatMap_cons, List.getElem?_append_right (by simp [encN0]; omega)]
    rw [← this]; congr 1; simp [encN0]; omega
theorem cells_len (l : List Tm) : (l.flatMap encN0).length = l.length * 3 := by
  induction l with
  | nil => rfl
  | cons t l ih => rw [List.flatMap_cons, List.length_append, ih]; simp [encN0]; omega
theorem cells_enc (l : List Tm) : (l.map encT).flatMap AV.cells = l.flatMap encN0 := by
  induction l with
  | nil => rfl
  | cons t l ih => rw [List.map_cons, List.flatMap_cons, List.flatMap_cons, ih, encT_eq]; rfl
theorem cells_one (l : List Tm) : (l.flatMap encN0).all AV.one = true := by
  induction l with
  | nil => rfl
  | cons t l ih => rw [List.flatMap_cons, List.all_append, ih]; rfl
theorem cells_bare (l : List Tm) : (l.flatMap encN0).map AV.bare1 = l.flatMap encN0 := by
  induction l with
  | nil => rfl
  | cons t l ih => rw [List.flatMap_cons, List.map_append, ih]; rfl
theorem any_bare (k : Nat) : (List.replicate k AV.any).map AV.bare1 = List.replicate k .any := by rw [List.map_replicate]; rfl

theorem loop {l : List Tm} {b c k : Nat} {σ : AH} (hσb : σ b = none) (hlc : l.length ≤ c) (hc : c < 9223372036854775808) (hk : ∀ t ∈ l, Copied P W f t.kids) (hfl : (Sp.flatL l).length ≤ 8589934592) :
    ∀ (r i : Nat) (τ : AH) (vs : List AV), i + r = l.length → σ.le τ → τ b = some (.cells (vs ++ List.replicate k .any)) → vs.map AV.bare1 = l.flatMap encN0 →
      AW P W none 24 (atEnd [.t 2] (Post σ l)) [.c (body f), .lp (body f), .blk 0, .c tail] (EVc b c l.length i) τ [] := by
  intro r
  induction r with
  | zero =>
    intro i τ vs hir hστ hτb hvs
    refine AW.seq (AW.reg ?_)
    rw [wpOps]; simp only [wpA, unA, ev, argEnv, EVc, Env.get, Env.set, Env.put, reduceIte, Nat.reduceEqDiff, Nat.reduceAdd, reduceCtorEq, List.map, binA]
    refine ⟨trivial, ?_⟩
    rw [wpOps, TA.drop_nil]
    refine AW.seq ?_
    refine AW.cond (b := false) (by simp [ev, Env.get]; omega) ?_
    refine AW.exit (K' := [.c tail]) rfl ?_
    refine AW.freeze (t := 3) (xs := l.map encT) (rest := List.replicate k .any) rfl hτb (fun F us hr => ?_) (by rw [cells_enc]; exact cells_one l) (fun x hx => ?_) (by simp) hlc hc ?_
    · rw [cells_enc, ← hvs, ← any_bare k, ← List.map_append]
      exact hr.bare1
    · obtain ⟨t, _, rfl⟩ := List.mem_map.1 hx
      rw [encT_eq]; rfl
    · refine AW.seq (AW.reg ?_)
      rw [wpOps]; simp only [wpA, unA, ev, argEnv, EVc, Env.get, Env.set, Env.put, reduceIte, Nat.reduceEqDiff, Nat.reduceAdd, reduceCtorEq, List.map]
      rw [wpOps]; simp only [wpA, unA, ev, argEnv, EVc, Env.get, Env.set, Env.put, reduceIte, Nat.reduceEqDiff, Nat.reduceAdd, reduceCtorEq, List.map]
      rw [wpOps, TA.drop_nil]
      refine AW.ret ?_
      simp only [atEnd, resW, AH.delAll, one1, Env.get, reduceIte, Nat.reduceEqDiff]
      refine ⟨List.nodup_nil, fun b hb => (by cases hb), ⟨_, rfl⟩, fun x o hx => ?_⟩
      have : x ≠ b := by rintro rfl; rw [hσb] at hx; cases hx
      simp only [AH.del, this, if_false]; exact hστ _ _ hx
  | succ r ih =>
    intro i τ vs hir hστ hτb hvs
    have hi : i < l.length := by omega
    obtain ⟨t, ht⟩ : ∃ t, l[i]? = some t := ⟨_, List.getElem?_eq_getElem hi⟩
    have htm : t ∈ l := List.mem_of_getElem? ht
    have hvl : vs.length = l.length * 3 := by rw [← cells_len, ← hvs, List.length_map]
    have hat := cells_at l i t ht
    rw [← hvs, List.getElem?_map] at hat
    obtain ⟨v0, hv0, hv1⟩ := Option.map_eq_some_iff.1 hat
    obtain ⟨tok, rfl⟩ : ∃ tok, v0 = .lst 3 (t.kids.map encT) tok := by
      cases v0 <;> first | (cases hv1; done) | skip
      rename_i sz xs tk
      injection hv1 with h5 h6
      exact ⟨tk, by rw [h5, h6]⟩
    have hlt : i * 3 + 2 < vs.length := by omega
    have hgd : (vs ++ List.replicate k AV.any).getD (0 + i * 3 + 2) .any = .lst 3 (t.kids.map encT) tok := by
      rw [Nat.zero_add, List.getD_eq_getElem?_getD, List.getElem?_append_left hlt, hv0]; rfl
    refine AW.seq (AW.reg ?_)
    rw [wpOps]; simp only [wpA, unA, ev, argEnv, EVc, Env.get, Env.set, Env.put, reduceIte, Nat.reduceEqDiff, Nat.reduceAdd, reduceCtorEq, List.map, binA]
    refine ⟨trivial, ?_⟩
    rw [wpOps, TA.drop_nil]
    refine AW.seq ?_
    refine AW.cond (b := true) (by simp [ev, Env.get, hi]) ?_
    refine AW.skip (AW.seq (AW.block (AW.seq (AW.reg ?_))))
    rw [wpOps]; simp only [wpA, unA, ev, argEnv, EVc, Env.get, Env.set, Env.put, reduceIte, Nat.reduceEqDiff, Nat.reduceAdd, reduceCtorEq, List.map]
    rw [wpOps]; simp only [wpA, unA, ev, argEnv, EVc, Env.get, Env.set, Env.put, reduceIte, Nat.reduceEqDiff, Nat.reduceAdd, reduceCtorEq, List.map]
    rw [wpOps, TA.drop_nil]
    refine AW.reg ?_
    rw [wpOps]; simp only [wpA, unA, ev, argEnv, EVc, Env.get, Env.set, Env.put, reduceIte, Nat.reduceEqDiff, Nat.reduceAdd, reduceCtorEq, List.map]
    rw [wpOps]; simp only [wpA, unA, ev, argEnv, EVc, Env.get, Env.set, Env.put, reduceIte, Nat.reduceEqDiff, Nat.reduceAdd, reduceCtorEq, List.map]
    rw [wpOps]; simp only [wpA, unA, ev, argEnv, EVc, Env.get, Env.set, Env.put, reduceIte, Nat.reduceEqDiff, Nat.reduceAdd, reduceCtorEq, List.map]
    rw [wpOps]; simp only [wpA, unA, ev, argEnv, EVc, Env.get, Env.set, Env.put, reduceIte, Nat.reduceEqDiff, Nat.reduceAdd, reduceCtorEq, List.map]
    rw [wpOps]; simp only [wpA, unA, ev, argEnv, EVc, Env.get, Env.set, Env.put, reduceIte, Nat.reduceEqDiff, Nat.reduceAdd, reduceCtorEq, List.map]
    refine ⟨trivial, by omega, by omega, ?_⟩
    simp only [Int.toNat_natCast]
    rw [wpOps]; simp only [wpA, unA, ev, argEnv, EVc, Env.get, Env.set, Env.put, reduceIte, Nat.reduceEqDiff, Nat.reduceAdd, reduceCtorEq, List.map]
    rw [wpOps]; simp only [wpA, unA, ev, argEnv, EVc, Env.get, Env.set, Env.put, reduceIte, Nat.reduceEqDiff, Nat.reduceAdd, reduceCtorEq, List.map, hτb]
    refine ⟨by simp; omega, ?_⟩
    rw [hgd]
    rw [wpOps]; simp only [wpA, unA, ev, argEnv, EVc, Env.get, Env.set, Env.put, reduceIte, Nat.reduceEqDiff, Nat.reduceAdd, reduceCtorEq, List.map]
    refine wpA_mono_call (show ACallV P W (AV.fn (Fn.func f) [] []) [AV.lst 3 (List.map encT t.kids) tok] τ _ from (by
      have := hk t htm τ tok (Nat.le_trans (flat_mem htm) hfl)
      simpa [ACallV] using this)) fun v τ2 hv => ?_
    obtain ⟨⟨tok2, rfl⟩, hle2⟩ := hv
    have hb2 := hle2 _ _ hτb
    rw [wpOps]; simp only [wpA, unA, ev, argEnv, EVc, Env.get, Env.set, Env.put, reduceIte, Nat.reduceEqDiff, Nat.reduceAdd, reduceCtorEq, List.map]
    refine ⟨trivial, by omega, by omega, ?_⟩
    simp only [Int.toNat_natCast]
    rw [wpOps]; simp only [wpA, unA, ev, argEnv, EVc, Env.get, Env.set, Env.put, reduceIte, Nat.reduceEqDiff, Nat.reduceAdd, reduceCtorEq, List.map]
    rw [wpOps]; simp only [wpA, unA, ev, argEnv, EVc, Env.get, Env.set, Env.put, reduceIte, Nat.reduceEqDiff, Nat.reduceAdd, reduceCtorEq, List.map, hb2]
    refine ⟨rfl, rfl, by simp; omega, ?_⟩
    rw [wpOps, TA.drop_nil]
    refine AW.blk (AW.reg ?_)
    rw [wpOps]; simp only [wpA, unA, ev, argEnv, EVc, Env.get, Env.set, Env.put, reduceIte, Nat.reduceEqDiff, Nat.reduceAdd, reduceCtorEq, List.map, binA]
    refine ⟨trivial, ?_⟩
    rw [wpOps]; simp only [wpA, unA, ev, argEnv, EVc, Env.get, Env.set, Env.put, reduceIte, Nat.reduceEqDiff, Nat.reduceAdd, reduceCtorEq, List.map]
    rw [wpOps, TA.drop_nil]
    have hset : setAt (vs ++ List.replicate k AV.any) (0 + i * 3 + 2) (AV.lst 3 (List.map encT t.kids) tok2).cells = vs.set (i * 3 + 2) (AV.lst 3 (List.map encT t.kids) tok2) ++ List.replicate k AV.any := by
      rw [Nat.zero_add]; simp only [AV.cells, setAt]
      rw [List.set_append_left _ _ hlt]
    refine AW.lp (AW.forget (env' := EVc b c l.length (i + 1)) (fun u => ?_) (ih (i + 1) _ (vs.set (i * 3 + 2) (.lst 3 (t.kids.map encT) tok2)) (by omega) ?_ (by rw [AH.put_same, hset]) ?_))
    · have ew : IntKind.i64.wrap ((i : Int) + 1) = ((i + 1 : Nat) : Int) := by rw [inR_wrap (inR64 (by omega))]; omega
      simp only [TA.drop_nil, EVc, Env.get, ew]
      by_cases h3 : 3 = u
      · subst h3; simp
      by_cases h7 : 7 = u
      · subst h7; simp
      by_cases h8 : 8 = u
      · subst h8; simp
      by_cases h9 : 9 = u
      · subst h9; simp
      simp [h3, h7, h8, h9]
    · intro x o hx
      have : x ≠ b := by rintro rfl; rw [hσb] at hx; cases hx
      rw [AH.put_ne _ _ this]; exact hle2 _ _ (hστ _ _ hx)
    · rw [List.map_set, ← hvs]
      apply List.ext_getElem?
      intro j
      rw [List.getElem?_set]
      split
      · rename_i hj
        subst hj
        rw [hvs, cells_at l i t ht]
        rw [if_pos (by rw [← hvs, List.length_map]; exact hlt)]
        rfl
      · rfl

theorem copy_of (hf : codeOf P f = some (24, [.t 2], copy f g)) (hg : codeOf P g = some (8, [.t 2], clone)) {l : List Tm} (hk : ∀ t ∈ l, Copied P W f t.kids) : Copied P W f l := by
  intro σ tok hfl
  obtain ⟨fn, c, e1, e2, e3, e4, e5, e6⟩ := codeOf_spec hf
  refine acall_of e1 e2 e3 e4 e5 (by rw [e6]; simp) ?_
  rw [e6]
  refine AW.seq (AW.reg ?_)
  rw [wpOps]; simp only [wpA, unA, ev, argEnv, EVc, Env.get, Env.set, Env.put, reduceIte, Nat.reduceEqDiff, Nat.reduceAdd, reduceCtorEq, List.map]
  rw [wpOps, TA.drop_nil]
  refine AW.seq (AW.reg ?_)
  rw [wpOps]; simp only [wpA, unA, ev, argEnv, EVc, Env.get, Env.set, Env.put, reduceIte, Nat.reduceEqDiff, Nat.reduceAdd, reduceCtorEq, List.map]
  rw [wpOps]; simp only [wpA, unA, ev, argEnv, EVc, Env.get, Env.set, Env.put, reduceIte, Nat.reduceEqDiff, Nat.reduceAdd, reduceCtorEq, List.map]
  have hlen : (l.map encT).length ≤ 8589934592 := by rw [List.length_map]; exact Nat.le_trans (flat_len l) hfl
  refine wpA_mono_call (show ACallV P W (AV.fn (Fn.func g) [] []) [AV.lst 3 (List.map encT l) tok] σ _ from (by
      have := clone_ok (W := W) hg (tok := tok) hlen σ
      simpa [ACallV] using this)) fun v τ hv => ?_
  obtain ⟨hle, hv⟩ := hv
  rcases hv with ⟨hl, t, rfl⟩ | ⟨hl, b, c, hb, rfl, hlc, hc, hτ⟩
  · have hl0 : l = [] := by simpa using hl
    subst hl0
    rw [wpOps]; simp only [wpA, unA, ev, argEnv, EVc, Env.get, Env.set, Env.put, reduceIte, Nat.reduceEqDiff, Nat.reduceAdd, reduceCtorEq, List.map]
    rw [wpOps, TA.drop_nil]
    refine AW.seq (AW.seq (AW.reg ?_))
    rw [wpOps]; simp only [wpA, unA, ev, argEnv, EVc, Env.get, Env.set, Env.put, reduceIte, Nat.reduceEqDiff, Nat.reduceAdd, reduceCtorEq, List.map]
    rw [wpOps]; simp only [wpA, unA, ev, argEnv, EVc, Env.get, Env.set, Env.put, reduceIte, Nat.reduceEqDiff, Nat.reduceAdd, reduceCtorEq, List.map]
    intro _
    rw [wpOps]; simp only [wpA, unA, ev, argEnv, EVc, Env.get, Env.set, Env.put, reduceIte, Nat.reduceEqDiff, Nat.reduceAdd, reduceCtorEq, List.map]
    rw [wpOps, TA.drop_nil]
    refine AW.block (AW.loop (AW.seq (AW.reg ?_)))
    rw [wpOps]; simp only [wpA, unA, ev, argEnv, EVc, Env.get, Env.set, Env.put, reduceIte, Nat.reduceEqDiff, Nat.reduceAdd, reduceCtorEq, List.map, binA]
    refine ⟨trivial, ?_⟩
    rw [wpOps, TA.drop_nil]
    refine AW.seq ?_
    refine AW.cond (b := false) (by simp [ev, Env.get]) ?_
    refine AW.exit (K' := [.c tail]) rfl ?_
    refine AW.seq (AW.reg ?_)
    rw [wpOps]; simp only [wpA, unA, ev, argEnv, EVc, Env.get, Env.set, Env.put, reduceIte, Nat.reduceEqDiff, Nat.reduceAdd, reduceCtorEq, List.map]
    rw [wpOps]; simp only [wpA, unA, ev, argEnv, EVc, Env.get, Env.set, Env.put, reduceIte, Nat.reduceEqDiff, Nat.reduceAdd, reduceCtorEq, List.map]
    rw [wpOps, TA.drop_nil]
    refine AW.ret ?_
    simp only [atEnd, resW, AH.delAll, one1, Env.get, reduceIte, Nat.reduceEqDiff]
    exact ⟨List.nodup_nil, fun b hb => (by cases hb), ⟨_, rfl⟩, hle⟩
  · rw [List.length_map] at hlc hτ ⊢
    rw [wpOps]; simp only [wpA, unA, ev, argEnv, EVc, Env.get, Env.set, Env.put, reduceIte, Nat.reduceEqDiff, Nat.reduceAdd, reduceCtorEq, List.map]
    rw [wpOps, TA.drop_nil]
    refine AW.seq (AW.seq (AW.reg ?_))
    rw [wpOps]; simp only [wpA, unA, ev, argEnv, EVc, Env.get, Env.set, Env.put, reduceIte, Nat.reduceEqDiff, Nat.reduceAdd, reduceCtorEq, List.map]
    rw [wpOps]; simp only [wpA, unA, ev, argEnv, EVc, Env.get, Env.set, Env.put, reduceIte, Nat.reduceEqDiff, Nat.reduceAdd, reduceCtorEq, List.map]
    rw [wpOps]; simp only [wpA, unA, ev, argEnv, EVc, Env.get, Env.set, Env.put, reduceIte, Nat.reduceEqDiff, Nat.reduceAdd, reduceCtorEq, List.map]
    rw [wpOps, TA.drop_nil]
    rw [cells_enc] at hτ
    refine AW.block (AW.loop (AW.forget (env' := EVc b c l.length 0) (fun u => ?_) (loop hb hlc hc hk hfl l.length 0 τ (l.flatMap encN0) (by omega) hle hτ ?_)))
    · simp only [EVc, Env.get]
      by_cases h3 : 3 = u
      · subst h3; simp
      by_cases h7 : 7 = u
      · subst h7; simp
      by_cases h8 : 8 = u
      · subst h8; simp
      by_cases h9 : 9 = u
      · subst h9; simp
      simp [h3, h7, h8, h9]
    · exact cells_bare l

theorem copy_ok (hf : codeOf P f = some (24, [.t 2], copy f g)) (hg : codeOf P g = some (8, [.t 2], clone)) (l : List Tm) : Copied P W f l :=
  copy_of hf hg fun t ht => Sp.flatT_rec (p := fun t => Copied P W f t.kids) (fun u hu => copy_of hf hg hu) t

theorem asLst {l : List Tm} {as : List AV} (has : as.map AV.bare = encTs [.lst (.nm 0)] l) : ∃ tok, as = [.lst 3 (l.map encT) tok] := by
  match as, has with
  | [a], has =>
    have h2 : [a.bare] = [encE (.lst (.nm 0)) l] := has
    have h1 := (List.cons.inj h2).1
    have h4 : encE (.lst (.nm 0)) l = .lst 3 (l.map encT) .none := congrArg (fun x => AV.lst 3 x Tok.none) (TA.encM l)
    rw [h4] at h1
    cases a <;> first | (cases h1; done) | skip
    rename_i sz xs tk
    injection h1 with h5 h6
    exact ⟨tk, by rw [h5, h6]⟩
  | [], has => simp [encTs] at has
  | _ :: _ :: _, has => simp [encTs] at has

theorem ok (hf : codeOf P f = some (24, [.t 2], copy f g)) (hg : codeOf P g = some (8, [.t 2], clone)) {pre : List Tm → Prop} (hpre : ∀ l, pre l → (Sp.flatL l).length ≤ 8589934592) :
    CtrOK P W f (pureCtr [.lst (.nm 0)] [.lst (.nm 0)] (some pre) (fun l => l)) := by
  refine pureCtr_ok fun l hl as has σ => ?_
  obtain ⟨tok, rfl⟩ := asLst has
  refine (copy_ok hf hg l σ tok (hpre l hl)).mono fun v σ' ⟨⟨t, hv⟩, hle⟩ => ⟨.inr (.inl ?_), hle⟩
  rw [hv]
  show AV.lst 3 (l.map encT) .none = encE (.lst (.nm 0)) l
  exact (congrArg (fun x => AV.lst 3 x Tok.none) (TA.encM l)).symm
end TC
end Go.AL
