/- Functions of the program: what they return, and that they do. -/
import Derived.Test.YtcalbijmeifbhaaGreatHandE
set_option linter.unusedVariables false
set_option linter.unusedSimpArgs false
namespace Go.AL
open Go.RowKit
set_option linter.unusedVariables false
set_option linter.unusedSectionVars false
set_option linter.unusedSimpArgs false
namespace TQ
open TK (encG)
def asg : AC := (.reg [⟨(some 5), none, .new [(.int .i64 0), (.int .i64 0), (.int .i64 0), (.int .i64 0), (.str ⟨#[]⟩), (.lst 3 [] .clip), (.lst 3 [] .clip), (.int .i64 0)]⟩, ⟨none, none, .st 8 (.t 5) (.t 7)⟩] [])
def body : AC := (.block 1 (.reg [⟨(some 8), none, .ld false 1 (.t 2)⟩, ⟨(some 9), none, .ld true 8 (.t 5)⟩, ⟨(some 10), none, .bsl 8 1 (.agg [(.int .i64 0), (.int .i64 0), (.int .i64 0), (.int .i64 0), (.str ⟨#[]⟩), (.lst 3 [] .clip), (.lst 3 [] .clip), (.int .i64 0)]) [(0, (.t 9))]⟩, ⟨(some 11), none, .app 8 (.t 8) (.t 10)⟩, ⟨none, none, .st 1 (.t 2) (.t 11)⟩] []))
def tail : AC := (.seq (.reg [⟨(some 12), none, .ld false 1 (.t 2)⟩, ⟨(some 4), none, .mv (.t 12)⟩] [])
  (.ret))
def code : AC :=
 .seq (.reg [⟨(some 2), none, .box (.t 0)⟩, ⟨(some 4), none, .mv (.c (.lst 8 [] .clip))⟩] [])
 (.seq (.seq (.reg [⟨(some 6), none, .mv (.t 1)⟩] [])
  (.block 0 (.rangeF (.t 6) [7] asg body))) tail)
variable {P : Program} {W : World}
def C : Ctr where
 pv _ := none
 run vs st K := match vs with
  | [x, .iter t xs] => if h : t = .nm 6 then appE st 8 x (.lst (.nm 6) (h ▸ xs) .none) K else False
  | _ => False
theorem appE_on {fr0 : F0} {w : Wd} {st : St} {σ : AH} {ds : List Nat} {sz : Nat} {x y : VV} {a : AV} {K : VV → St → Prop} (hr : HR P W fr0 w st σ ds) (hx : VRel P W w st.nx x a) (h : appE st sz x y K) :
  ∀ c, (avTok a).isOn c = true → w.fr c = none := by
 have key : ∀ {tk : VTok} {tok : Tok} {live' : List Nat}, TokR w st.nx tk tok → takeTok st tk = some live' → ∀ c, tok.isOn c = true → w.fr c = none := by
  intro tk tok live' ht hk c hc
  cases tk with
  | none => cases hk
  | clip => have : tok = .clip := ht
            subst this; cases hc
  | own id =>
    simp only [takeTok] at hk
    split at hk
    ·rename_i hcc; obtain ⟨_, rfl⟩ := ht; exact hr.lfr id (by simpa using hcc) c hc
    ·cases hk
 unfold appE at h
 split at h
 ·rename_i t l tk
  simp only [VRel] at hx
  obtain ⟨tok, rfl, rt⟩ := hx
  split at h
  ·split at h
   ·rename_i l' live' _ hlv; exact key rt hlv
   ·exact h.elim
  ·exact h.elim
 ·rename_i sz' xs tk
  simp only [VRel] at hx
  obtain ⟨ys, tok, rfl, _, rt⟩ := hx
  split at h
  ·split at h
   ·rename_i _ live' hlv; exact key rt hlv
   ·rename_i _ live' hlv; exact key rt hlv
   ·exact h.elim
  ·exact h.elim
 ·exact h.elim
theorem live_on {σ : AH} {t : Tok} {c : Nat} (h : Live σ t) (hc : t.isOn c = true) : σ c ≠ none := by
 cases t with
 | none => cases hc
 | clip => cases hc
 | own b e lim =>
   simp only [Tok.isOn, beq_iff_eq] at hc
   subst hc
   have : σ b = some (.row e lim) := h
   rw [this]; simp
theorem drop_nil (e : Env) : Env.drop e [] = e := by simp [Env.drop]
theorem setAt8 (e : Edg) : setAt [AV.int .i64 0, .int .i64 0, .int .i64 0, .int .i64 0, .str ⟨#[]⟩, .lst 3 [] .clip, .lst 3 [] .clip, .int .i64 0] 0 (encN6 e) = encN6 e := rfl
structure JJ (σ : AH) (t : Tok) (xs0 ys : List AV) (l b2 bm : Nat) (rec_ : AObj) (k : Nat) (I τ : AH) (tk : Tok) : Prop where
 le : I.le τ
 lrec : τ l = some rec_
 il : I l = none
 ib : I b2 = none
 mrk : τ bm = some .marks
 box : τ b2 = some (.cells [.lst 8 (xs0 ++ ys.take k) tk])
 live : Live τ tk
 off : ∀ c, tk.isOn c = true → I c = none ∧ c ≠ l ∧ c ≠ b2 ∧ c ≠ bm
 kept : ∀ c o, σ c = some o → t.isOn c = false → τ c = some o
 old : ∀ c, tk.isOn c = true → t.isOn c = true ∨ σ c = none
theorem ok {f : Nat} (hc : codeOf P f = some (13, [.t 4], code)) : CtrOK P W f C := by
 constructor
 ·intro vs pv hpv; cases hpv
 ·intro vs st K hrun fr0 w σ ds as hH hr
  simp only [C] at hrun
  split at hrun
  case h_2 => exact hrun.elim
  rename_i x t xs
  split at hrun
  case isFalse => exact hrun.elim
  rename_i ht
  subst ht
  simp only [VRelL] at hr
  obtain ⟨ax, r1, rfl, rx, af, r2, rfl, rf, rfl⟩ := hr
  simp only [VRel] at rf
  obtain ⟨fz, hfz, g, first, cap, rfl, hiter⟩ := rf
  obtain ⟨xe, ys, hyd, hyd'⟩ : ∃ (xe : List Edg) (ys : List AV), ys = xe.map encG ∧ @List.map (El (.nm 6)) AV (encA (.nm 6)) xs = ys := ⟨xs, _, rfl, rfl⟩
  rw [hyd'] at hiter
  have happ := appE_sound (aenv := []) (x := .c ax) (y := .c (.lst 8 ys .none)) hH rx (show VRel P W w st.nx (.lst (.nm 6) xs .none) (.lst 8 ys .none) by
   simp only [VRel]; exact ⟨.none, by rw [← hyd']; rfl, trivial⟩) hrun
   (K' := fun a σ' => ∃ v st' w', K v st' ∧ st'.env = st.env ∧ HR P W fr0 w' st' σ' ds ∧ VRel P W w' st'.nx v a ∧ Wd.le st.nx w w' ∧ st.nx ≤ st'.nx) fun v st' w' σ' a h1 h2 h3 h4 h5 h6 => ⟨v, st', w', h1, h2, h3, h4, h5, h6⟩
  have hon := appE_on hH rx hrun
  unfold appW at happ
  simp only [ev] at happ
  split at happ
  case h_2 => exact happ.elim
  rename_i sz1 xs0 t sz2 ys' tt h2
  cases h2
  obtain ⟨rfl, _, hlive, hbound, happ⟩ := happ
  simp only [avTok] at hon
  obtain ⟨fn, c, e1, e2, e3, e4, e5, e6⟩ := codeOf_spec hc
  refine acall_of e1 e2 e3 e4 e5 (by rw [e6]; simp) ?_
  rw [e6]
  refine AW.seq (AW.reg ?_)
  rw [wpOps]; simp only [wpA, ev, argEnv, Env.get, Env.set, Env.put, reduceIte, Nat.reduceEqDiff, Nat.reduceAdd, reduceCtorEq, List.map, AV.cells]
  refine ⟨rfl, fun b2 hb2 => ?_⟩
  rw [wpOps]; simp only [wpA, ev, argEnv, Env.get, Env.set, Env.put, reduceIte, Nat.reduceEqDiff, Nat.reduceAdd, reduceCtorEq, List.map, AV.cells]
  rw [wpOps, drop_nil]
  obtain ⟨σ1, hσ1⟩ : ∃ σ1, σ1 = σ.put b2 (.cells [.lst 8 xs0 t]) := ⟨_, rfl⟩
  rw [← hσ1]
  have hle1 : σ.le σ1 := by rw [hσ1]; exact AH.le_put _ hb2
  have hb21 : σ1 b2 = some (.cells [.lst 8 xs0 t]) := by rw [hσ1, AH.put_same]
  refine AW.seq (AW.seq (AW.reg ?_))
  rw [wpOps]; simp only [wpA, ev, argEnv, Env.get, Env.set, Env.put, reduceIte, Nat.reduceEqDiff, Nat.reduceAdd, reduceCtorEq, List.map, AV.cells]
  rw [wpOps, drop_nil]
  refine AW.block (AW.rangeF (g := g) (first := first) (cap := cap) (by simp [ev, Env.get]) fun bm l hbm hl hlb σ2 hσ2b hσ2 hloop hps => ?_)
  obtain ⟨fn', ra, rb, df, dl, hrec, hra, hrb⟩ := hloop
  generalize henv : ([(0, AV.lst 8 xs0 t), (1, AV.fn (.func g) first cap), (2, AV.ptr b2 0), (4, AV.lst 8 [] .clip), (6, AV.fn (.func g) first cap)] : Env) = env at *
  obtain ⟨rec_, hrecd⟩ : ∃ r, r = AObj.loop .ready none fn' 13 env [7] ra rb df := ⟨_, rfl⟩
  rw [← hrecd] at hrec
  have hσl : σ l = none := AH.none_le hle1 hl
  have hσm : σ bm = none := AH.none_le hle1 hbm
  have nb2l : b2 ≠ l := by rintro rfl; rw [hb21] at hl; cases hl
  have nb2m : b2 ≠ bm := by rintro rfl; rw [hb21] at hbm; cases hbm
  have hle2 : σ1.le σ2 := fun c o hc => by
   rw [hσ2 c (by rintro rfl; rw [hbm] at hc; cases hc) (by rintro rfl; rw [hl] at hc; cases hc)]; exact hc
  have hfσ : fz.le σ := AH.le_trans hfz hH.fr
  refine (hiter (fun k I τ => ∃ tk, JJ σ t xs0 ys l b2 bm rec_ k I τ tk) (fun _ _ => False) (.fn (.yield l) [] []) σ2 ⟨_, _, _, rfl⟩ (fun k I τ ⟨tk, h⟩ => h.le) ?_ ?_ (fun _ _ _ h => h.elim) (fun _ _ _ h => h.elim) ?_ ?_).mono fun v τ hτ => ?_
  ·-- grow
   rintro k I τ I' τ' ⟨tk, h⟩ h1 h2 h3 h4
   have hn : ∀ c, I c = none → τ c ≠ none → I' c = none := fun c q1 q2 => by
    cases hx : I' c with
    | none => rfl
    | some o => exact absurd (h4 c (by rw [hx]; simp) q1) q2
   exact ⟨tk, h3, h1 _ _ h.lrec, hn _ h.il (by rw [h.lrec]; simp), hn _ h.ib (by rw [h.box]; simp), h1 _ _ h.mrk, h1 _ _ h.box, h.live.mono h1,
    fun c hc => ⟨hn c (h.off c hc).1 (live_on h.live hc), (h.off c hc).2⟩, fun c o q1 q2 => h1 _ _ (h.kept c o q1 q2), h.old⟩
  ·-- less is kept
   rintro k I τ I' ⟨tk, h⟩ h1
   exact ⟨tk, AH.le_trans h1 h.le, h.lrec, AH.none_le h1 h.il, AH.none_le h1 h.ib, h.mrk, h.box, h.live, fun c hc => ⟨AH.none_le h1 (h.off c hc).1, (h.off c hc).2⟩, h.kept, h.old⟩
  ·-- at the start
   have no : ∀ c, σ c = none → t.isOn c = true → False := fun c q1 q2 => live_on hlive q2 q1
   refine ⟨t, AH.le_trans hfσ (AH.le_trans hle1 hle2), hrec, AH.none_le hfσ hσl, AH.none_le hfσ hb2, hσ2b, ?_, (hlive.mono hle1).mono hle2, fun c hc => ⟨AH.none_le hfz (hon c hc), ?_, ?_, ?_⟩, fun c o q1 _ => hle2 _ _ (hle1 _ _ q1), fun c hc => .inl hc⟩
   ·rw [List.take_zero, List.append_nil]; exact hle2 _ _ hb21
   ·rintro rfl; exact no _ hσl hc
   ·rintro rfl; exact no _ hb2 hc
   ·rintro rfl; exact no _ hσm hc
  ·-- a round
   rintro k x I τ hx ⟨tk, h⟩
   have hxe : ∃ e : Edg, x = encG e := by
    rw [hyd, List.getElem?_map] at hx
    cases hq : xe[k]? with
    | none => rw [hq] at hx; cases hx
    | some e => rw [hq] at hx; cases hx; exact ⟨e, rfl⟩
   obtain ⟨e, rfl⟩ := hxe
   have hk : k < ys.length := by
    rcases Nat.lt_or_ge k ys.length with q | q
    ·exact q
    ·rw [List.getElem?_eq_none q] at hx; cases hx
   show AYield P W l [encG e] τ _
   refine ayield_of (ps := [7]) (asg := asg) (body := body) ⟨fn', ra, rb, df, dl, by rw [← hrecd]; exact h.lrec, hra, hrb⟩ hps rfl ?_
   have henv2 : Env.get env 2 = AV.ptr b2 0 := by rw [← henv]; rfl
   have hg2 : (Env.puts env [7] [encG e]).get 2 = AV.ptr b2 0 := (Env.get_put_ne _ _ (by decide)).trans henv2
   have hg7 : (Env.puts env [7] [encG e]).get 7 = encG e := Env.get_put_same _ _ _
   generalize Env.puts env [7] [encG e] = env1 at hg2 hg7 ⊢
   refine AW.reg ?_
   rw [wpOps]; simp only [wpA]
   intro b5 hb5
   rw [wpOps]; simp only [wpA, ev, Env.set, Env.get_put_same, AH.put_same, Env.get_put_ne _ _ (show (7 : Nat) ≠ 5 by decide), hg7, encG, AV.cells]
   refine ⟨by simp [encN6, encN0], rfl, by simp [encN6, encN0], ?_⟩
   rw [setAt8]
   generalize hτ1 : (τ.put b5 _).put b5 _ = τ1
   have k5 : τ1 b5 = some (.cells (encN6 e)) := by rw [← hτ1, AH.put_same]
   have kne : ∀ c, c ≠ b5 → τ1 c = τ c := fun c hc => by rw [← hτ1, AH.put_ne _ _ hc, AH.put_ne _ _ hc]
   have n5 : ∀ c o, τ c = some o → c ≠ b5 := fun c o hc => by rintro rfl; rw [hb5] at hc; cases hc
   rw [wpOps, drop_nil]
   have hl1 : τ1 l = some rec_ := by rw [kne l (n5 _ _ h.lrec)]; exact h.lrec
   refine AW.bgn (by rw [hl1, hrecd]) ?_
   obtain ⟨bsy, hbsy⟩ : ∃ r, r = AObj.loop .busy none fn' 13 env [7] ra rb df := ⟨_, rfl⟩
   have es : AL.setLoop τ1 l .busy none = τ1.put l bsy := by simp [AL.setLoop, hl1, hrecd, hbsy]
   rw [es]
   generalize hτ2 : τ1.put l bsy = τ2
   have l2 : τ2 l = some bsy := by rw [← hτ2, AH.put_same]
   have ne2 : ∀ c, c ≠ l → c ≠ b5 → τ2 c = τ c := fun c q1 q2 => by rw [← hτ2, AH.put_ne _ _ q1, kne c q2]
   have nl5 : l ≠ b5 := n5 _ _ h.lrec
   have n25 : b2 ≠ b5 := n5 _ _ h.box
   have hb2' : τ2 b2 = some (.cells [.lst 8 (xs0 ++ ys.take k) tk]) := by rw [ne2 b2 nb2l n25]; exact h.box
   have hb5' : τ2 b5 = some (.cells (encN6 e)) := by rw [← hτ2, AH.put_ne _ _ nl5.symm]; exact k5
   have tk2 : tk.isOn b2 = false := by
    cases hq : tk.isOn b2 with
    | false => rfl
    | true => exact absurd rfl (h.off _ hq).2.2.1
   have tkl : tk.isOn l = false := by
    cases hq : tk.isOn l with
    | false => rfl
    | true => exact absurd rfl (h.off _ hq).2.1
   have tkm : tk.isOn bm = false := by
    cases hq : tk.isOn bm with
    | false => rfl
    | true => exact absurd rfl (h.off _ hq).2.2.2
   have live2 : Live τ2 tk := by
    have := h.live
    cases tk with
    | none => exact this
    | clip => trivial
    | own b ee lim =>
      have hb : τ b = some (.row ee lim) := this
      show τ2 b = _
      rw [ne2 b (by rintro rfl; simp [Tok.isOn] at tkl) (n5 _ _ hb)]; exact hb
   refine AW.block (AW.reg ?_)
   rw [wpOps]; simp only [wpA, ev, Env.get_put_ne _ _ (show (2 : Nat) ≠ 5 by decide), Env.set, hg2, hb2']
   refine ⟨by simp, ?_⟩
   simp only [List.getD_cons_zero]
   rw [wpOps]; simp only [wpA, ev, Env.get_put_ne _ _ (show (5 : Nat) ≠ 8 by decide), Env.set, Env.get_put_same, hb5']
   refine ⟨by simp [encN6, encN0], rfl, ?_⟩
   have hx2 : List.take 8 (List.drop 0 (encN6 e)) = encN6 e := rfl
   rw [hx2]
   rw [wpOps]; simp only [wpA, ev, Env.set, Env.get_put_same, List.map]
   have hpe : putElems 8 (List.replicate 1 (AV.agg [(.int .i64 0), (.int .i64 0), (.int .i64 0), (.int .i64 0), (.str ⟨#[]⟩), (.lst 3 [] .clip), (.lst 3 [] .clip), (.int .i64 0)]).bare) [(0, AV.agg (encN6 e))] = some [AV.agg (encN6 e)] := rfl
   rw [hpe]
   refine ⟨rfl, rfl, ?_⟩
   rw [wpOps]; simp only [wpA, ev, Env.set, Env.get_put_same, Env.get_put_ne _ _ (show (8 : Nat) ≠ 10 by decide), Env.get_put_ne _ _ (show (8 : Nat) ≠ 9 by decide)]
   refine ⟨trivial, trivial, live2, ?_, .inl fun t' σ' hA => ?_⟩
   ·simp only [List.length_append, List.length_take, List.length_cons, List.length_nil]
    omega
   have old' : ∀ c, t'.isOn c = true → τ2 c ≠ none → tk.isOn c = true := fun c q1 q2 => (hA.old c q1).resolve_right q2
   have t2 : t'.isOn b2 = false := by
    cases hq : t'.isOn b2 with
    | false => rfl
    | true => have := old' _ hq (by rw [hb2']; simp); rw [tk2] at this; cases this
   have tl : t'.isOn l = false := by
    cases hq : t'.isOn l with
    | false => rfl
    | true => have := old' _ hq (by rw [l2]; simp); rw [tkl] at this; cases this
   have mk2 : τ2 bm = some .marks := by rw [ne2 bm hlb.symm (n5 _ _ h.mrk)]; exact h.mrk
   have tm : t'.isOn bm = false := by
    cases hq : t'.isOn bm with
    | false => rfl
    | true => have := old' _ hq (by rw [mk2]; simp); rw [tkm] at this; cases this
   have hb2'' := hA.kept _ _ hb2' tk2
   have hl'' := hA.kept _ _ l2 tkl
   rw [wpOps]; simp only [wpA, ev, Env.set, Env.get_put_same, Env.get_put_ne _ _ (show (2 : Nat) ≠ 11 by decide), Env.get_put_ne _ _ (show (2 : Nat) ≠ 10 by decide), Env.get_put_ne _ _ (show (2 : Nat) ≠ 9 by decide), Env.get_put_ne _ _ (show (2 : Nat) ≠ 8 by decide), Env.get_put_ne _ _ (show (2 : Nat) ≠ 5 by decide), hg2, hb2'', AV.cells]
   refine ⟨rfl, rfl, by simp, ?_⟩
   rw [wpOps, drop_nil]
   refine AW.blk (AW.fin ?_)
   have hset : setAt [AV.lst 8 (xs0 ++ ys.take k) tk] 0 [AV.lst 8 (xs0 ++ ys.take k ++ [AV.agg (encN6 e)]) t'] = [AV.lst 8 (xs0 ++ ys.take (k + 1)) t'] := by
    have : ys.take (k + 1) = ys.take k ++ [AV.agg (encN6 e)] := by
     rw [List.take_add_one, hx]; rfl
    rw [this, ← List.append_assoc]; rfl
   rw [hset]
   generalize hσ3 : σ'.put b2 _ = σ3
   have b3 : σ3 b2 = some (.cells [AV.lst 8 (xs0 ++ ys.take (k + 1)) t']) := by rw [← hσ3, AH.put_same]
   have ne3 : ∀ c, c ≠ b2 → σ3 c = σ' c := fun c hc => by rw [← hσ3, AH.put_ne _ _ hc]
   have l3 : σ3 l = some bsy := by rw [ne3 l nb2l.symm]; exact hl''
   refine ⟨⟨_, _, _, _, _, _, _, _, _, by rw [l3, hbsy]⟩, ?_⟩
   have es2 : AL.setLoop σ3 l .ready none = σ3.put l rec_ := by simp [AL.setLoop, l3, hrecd, hbsy]
   rw [es2]
   have stay : ∀ c o, τ c = some o → c ≠ l → c ≠ b2 → tk.isOn c = false → (σ3.put l rec_) c = some o := fun c o q1 q2 q3 q4 => by
    rw [AH.put_ne _ _ q2, ne3 c q3]
    exact hA.kept _ _ (by rw [ne2 c q2 (n5 _ _ q1)]; exact q1) q4
   have ill : I.le (σ3.put l rec_) := fun c o hc => by
    refine stay c o (h.le _ _ hc) (by rintro rfl; rw [h.il] at hc; cases hc) (by rintro rfl; rw [h.ib] at hc; cases hc) ?_
    cases hq : tk.isOn c with
    | false => rfl
    | true => rw [(h.off c hq).1] at hc; cases hc
   have some2 : ∀ c, τ c ≠ none → τ2 c ≠ none := fun c q => by
    by_cases hcl : c = l
    ·subst hcl; rw [l2]; simp
    ·rw [ne2 c hcl]; exact q
     rintro rfl; exact q hb5
   refine ⟨ill, .inl ⟨rfl, t', ill, AH.put_same _ _ _, h.il, h.ib, ?_, ?_, ?_, fun c hc => ⟨?_, ?_, ?_, ?_⟩, fun c o q1 q2 => ?_, fun c hc => ?_⟩⟩
   ·rw [AH.put_ne _ _ hlb.symm, ne3 bm nb2m.symm]; exact hA.kept _ _ mk2 tkm
   ·rw [AH.put_ne _ _ nb2l]; exact b3
   ·have hlv := hA.live
    cases t' with
    | none => exact hlv
    | clip => trivial
    | own b ee lim =>
      have hb : σ' b = some (.row ee lim) := hlv
      show (σ3.put l rec_) b = _
      rw [AH.put_ne _ _ (by rintro rfl; simp [Tok.isOn] at tl), ne3 b (by rintro rfl; simp [Tok.isOn] at t2)]; exact hb
   ·rcases hA.old c hc with q | q
    ·exact (h.off c q).1
    ·cases hI : I c with
     | none => rfl
     | some o => exact absurd q (some2 c (by rw [h.le _ _ hI]; simp))
   ·rintro rfl; rw [tl] at hc; cases hc
   ·rintro rfl; rw [t2] at hc; cases hc
   ·rintro rfl; rw [tm] at hc; cases hc
   ·refine stay c o (h.kept c o q1 q2) (by rintro rfl; rw [hσl] at q1; cases q1) (by rintro rfl; rw [hb2] at q1; cases q1) ?_
    cases hq : tk.isOn c with
    | false => rfl
    | true =>
      rcases h.old c hq with q | q
      ·rw [q2] at q; cases q
      ·rw [q] at q1; cases q1
   ·rcases hA.old c hc with q | q
    ·exact h.old c q
    ·cases hq : t.isOn c with
     | true => exact .inl rfl
     | false =>
       cases hs : σ c with
       | none => exact .inr rfl
       | some o => exact absurd q (some2 c (by rw [h.kept c o hs hq]; simp))
  ·-- behind
   rcases hτ with ⟨tk, h⟩ | h
   case inr => exact h.elim
   have hl2 := h.lrec
   rw [hrecd] at hl2
   simp only [afterRange, hl2]
   refine ⟨by simp, ?_⟩
   refine AW.blk (AW.seq (AW.reg ?_))
   have henv2 : Env.get env 2 = AV.ptr b2 0 := by rw [← henv]; rfl
   have hd2 : (τ.del l) b2 = some (.cells [.lst 8 (xs0 ++ ys.take ys.length) tk]) := by simp only [AH.del, nb2l, if_false]; exact h.box
   rw [wpOps]; simp only [wpA, ev, henv2, hd2]
   refine ⟨by simp, ?_⟩
   simp only [List.getD_cons_zero]
   rw [wpOps]; simp only [wpA, ev, Env.set, Env.get_put_same]
   rw [wpOps, drop_nil]
   refine AW.ret ?_
   have hdm : (τ.del l) bm = some .marks := by simp only [AH.del, hlb.symm, if_false]; exact h.mrk
   refine show [bm].Nodup ∧ (∀ b ∈ [bm], (τ.del l) b = some .marks) ∧ _ from ⟨by simp, by simp [hdm], ?_⟩
   simp only [resW, AH.delAll, one1, Env.get_put_same, List.take_length]
   obtain ⟨σ'', hσ''⟩ : ∃ σ'' : AH, σ'' = fun c => if tk.isOn c = true then τ c else if t.isOn c = true then none else σ c := ⟨_, rfl⟩
   have hA : Appended σ t σ'' tk := by
    refine ⟨fun c o q1 q2 => ?_, fun c o q1 q2 => ?_, ?_, h.old⟩
    ·rw [hσ'']
     cases hq : tk.isOn c with
     | false => simp [hq, q2, q1]
     | true => simp [hq, h.kept c o q1 q2]
    ·rw [hσ''] at q1
     simp only [q2, Bool.false_eq_true, if_false] at q1
     split at q1
     ·cases q1
     ·exact q1
    ·have hlv := h.live
     cases tk with
     | none => exact hlv
     | clip => trivial
     | own b ee lim =>
       show σ'' b = _
       rw [hσ'']; simp only [Tok.isOn, beq_self_eq_true, if_true]; exact hlv
   obtain ⟨v', st', w', g1, g2, g3, g4⟩ := happ tk σ'' hA
   refine ⟨v', st', w', g1, g2, g3.grow (fun c o hc => ?_), g4⟩
   rw [hσ''] at hc
   simp only at hc
   split at hc
   ·rename_i hq
    obtain ⟨_, q2, q3, q4⟩ := h.off c hq
    simp only [AH.del, q2, q4, if_false]; exact hc
   ·split at hc
    ·cases hc
    ·rename_i q1 q2
     have hkc := h.kept c o hc (by simpa using q2)
     have q3 : c ≠ l := by rintro rfl; rw [hσl] at hc; cases hc
     have q4 : c ≠ bm := by rintro rfl; rw [hσm] at hc; cases hc
     simp only [AH.del, q3, q4, if_false]; exact hkc
def codeC (a44 : Nat) : AC :=
 .seq (.reg [⟨(some 2), none, .mv (.c (.lst 8 [] .clip))⟩] [])
 (.seq (.reg [⟨(some 3), none, .mv (.t 0)⟩, ⟨(some 4), none, .call (.c (.fn (.func a44) [] [])) [(.c (.lst 8 [] .clip)), (.t 3)]⟩, ⟨(some 2), none, .mv (.t 4)⟩] [])
  (.ret))
def CC : Ctr where
 pv vs := match vs with
  | [.iter t xs] => if h : t = .nm 6 then some ⟨some (xs.length ≤ 8589934592), none, .lst (.nm 6) (h ▸ xs) .none⟩ else none
  | _ => none
 run vs st K := match vs with
  | [.iter t xs] => if h : t = .nm 6 then xs.length ≤ 8589934592 ∧ K (.lst (.nm 6) (h ▸ xs) .none) st else False
  | _ => False
theorem callC {f g : Nat} (hc : codeOf P f = some (13, [.t 4], code)) (hg : codeOf P g = some (5, [.t 2], codeC f)) {w : Wd} {nx : Nat} {xs : List (El (.nm 6))} {af : AV} (hx : VRel P W w nx (.iter (.nm 6) xs) af) (hl : xs.length ≤ 8589934592)
  {σ : AH} (hσ : w.fr.le σ) : ACall P W g [af] σ fun a σ' => Sim a (encE (.lst (.nm 6)) xs) ∧ σ.le σ' := by
 have h44 : ACall P W f [.lst 8 [] .clip, af] σ fun a σ' => Sim a (encE (.lst (.nm 6)) xs) ∧ σ.le σ' := by
  let w1 : Wd := { ρ := fun x => x, tk := fun _ => .none, ext := fun _ _ => False, fr := σ }
  have h1 : C.run [.vls 8 [] .clip, .iter (.nm 6) xs] st00 fun v _ => v = .lst (.nm 6) xs (.own 0) := by
   simp only [C, dite_true]
   show appE st00 8 (.vls 8 [] .clip) (.lst (.nm 6) xs .none) _
   have : asF 8 (.lst (.nm 6)) (.vls 8 [] .none) = some [] := rfl
   simp only [appE, takeTok, if_true, this]
   rw [if_pos (show szE (.nm 6) = 8 from rfl)]
   exact ⟨by simpa using hl, by simp [st00]⟩
  refine ((ok hc).run _ st00 _ h1 { base := σ, lo := none } w1 σ [] [.lst 8 [] .clip, af] ⟨AH.le_refl _, AH.le_refl _, fun x o hx => by simp [hlk, st00] at hx, fun x o hx => by simp [hlk, st00] at hx, fun x o hx => by simp [hlk, st00] at hx, fun x y o o' hx => by simp [hlk, st00] at hx,
      fun i hi => by simp [st00] at hi, fun i hi => by simp [st00] at hi, fun i hi => by simp [st00] at hi, fun i hi => by simp [st00] at hi, List.nodup_nil, fun b hb => (by cases hb), fun l o hl => (by cases hl)⟩ ?_).mono fun a σ' ⟨v, st', w', h1, h2, h3, h4, h5, h6⟩ => ⟨?_, AH.le_trans h3.base h3.fr⟩
  ·simp only [VRel] at hx
   obtain ⟨fz, q1, q2⟩ := hx
   simp only [VRelL, VRel, VRelB]
   exact ⟨_, _, rfl, ⟨[], .clip, rfl, rfl, rfl⟩, _, _, rfl, ⟨fz, AH.le_trans q1 hσ, q2⟩, rfl⟩
  ·subst h1
   simp only [VRel] at h4
   obtain ⟨tok, rfl, _⟩ := h4
   exact .inr (.inl rfl)
 obtain ⟨fn, c, e1, e2, e3, e4, e5, e6⟩ := codeOf_spec hg
 refine acall_of e1 e2 e3 e4 e5 (by rw [e6]; simp) ?_
 rw [e6]
 refine AW.seq (AW.reg ?_)
 rw [wpOps]; simp only [wpA, ev, argEnv, Env.get, Env.set, Env.put, reduceIte, Nat.reduceEqDiff, Nat.reduceAdd, reduceCtorEq, List.map]
 rw [wpOps, drop_nil]
 refine AW.seq (AW.reg ?_)
 rw [wpOps]; simp only [wpA, ev, argEnv, Env.get, Env.set, Env.put, reduceIte, Nat.reduceEqDiff, Nat.reduceAdd, reduceCtorEq, List.map]
 rw [wpOps]; simp only [wpA, ev, argEnv, Env.get, Env.set, Env.put, reduceIte, Nat.reduceEqDiff, Nat.reduceAdd, reduceCtorEq, List.map]
 refine wpA_mono_call (show ACallV P W (.fn (.func f) [] []) [.lst 8 [] .clip, af] σ _ from h44) fun v σ' ⟨h1, h2⟩ => ?_
 rw [wpOps]; simp only [wpA, ev, argEnv, Env.get, Env.set, Env.put, reduceIte, Nat.reduceEqDiff, Nat.reduceAdd, reduceCtorEq, List.map]
 rw [wpOps, drop_nil]
 refine AW.ret ?_
 simp only [atEnd, resW, AH.delAll, one1, Env.get, reduceIte, Nat.reduceEqDiff]
 exact ⟨List.nodup_nil, fun b hb => (by cases hb), h1, h2⟩
theorem okC {f g : Nat} (hc : codeOf P f = some (13, [.t 4], code)) (hg : codeOf P g = some (5, [.t 2], codeC f)) : CtrOK P W g CC := by
 constructor
 ·intro vs pv hpv hlen w nx as hr
  simp only [CC] at hpv
  split at hpv
  ·rename_i t xs
   split at hpv
   ·rename_i ht
    subst ht
    cases hpv
    simp only [VRelL] at hr
    obtain ⟨af, r, rfl, rf, rfl⟩ := hr
    refine ⟨trivial, encE (.lst (.nm 6)) xs, fun a ha => ?_, fun σ hσ => callC hc hg rf hlen hσ⟩
    have hb : a.bare = encE (.lst (.nm 6)) xs := by
     rcases ha with rfl | h | ⟨vs, _, h⟩
     ·exact encE_bare _ _
     ·exact h
     ·simp [encE] at h
    exact toVV_rel (t := .lst (.nm 6)) hb
   ·cases hpv
  ·cases hpv
 ·intro vs st K hrun fr0 w σ ds as hH hr
  simp only [CC] at hrun
  split at hrun
  case h_2 => exact hrun.elim
  rename_i t xs
  split at hrun
  case isFalse => exact hrun.elim
  rename_i ht
  subst ht
  simp only [VRelL] at hr
  obtain ⟨af, r, rfl, rf, rfl⟩ := hr
  refine (callC hc hg rf hrun.1 hH.fr).mono fun v σ' ⟨h1, h2⟩ => ?_
  have hb : v.bare = encE (.lst (.nm 6)) xs := by
   rcases h1 with rfl | h | ⟨vs, _, h⟩
   ·exact encE_bare _ _
   ·exact h
   ·simp [encE] at h
  exact ⟨_, st, w, hrun.2, rfl, hH.grow h2, toVV_rel (t := .lst (.nm 6)) hb, Wd.le_refl _ _, Nat.le_refl _⟩
end TQ
end Go.AL
