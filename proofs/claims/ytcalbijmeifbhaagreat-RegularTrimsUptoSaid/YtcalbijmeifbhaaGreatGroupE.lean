/- Functions of the program: what they return, and that they do. -/
import Derived.Test.YtcalbijmeifbhaaGreatGroupD
import Derived.Test.YtcalbijmeifbhaaGreatProg
import Derived.KernelRfl
import Derived.Test.YtcalbijmeifbhaaGreatEvalC
set_option linter.unusedVariables false
set_option linter.unusedSimpArgs false
namespace Go.AL
set_option linter.unusedVariables false
def l23_has.C : Ctr := pureCtr [.nm 7, .lst (.nm 0)] [.bool] (some (fun (a_ : Aut × (List Tm)) => match a_ with | (a, v) => Sp.okA a ∧ Sp.okL v)) (fun (a_ : Aut × (List Tm)) => match a_ with | (a, v) => ((if Sp.rcheck a = 0 then (if Sp.wrong v 4 = 0 then Sp.bhas (Sp.baccL a v) a.start else false) else false)))
def regular_Trim.C : Ctr := pureCtr [.nm 7] [.nm 7, .int .i64] (some (fun (a : Aut) => Sp.okA a)) (fun (a : Aut) => ((if Sp.rcheck a = 0 then (Sp.rtrim a, 0) else (⟨0, 0, [], []⟩, Sp.rcheck a))))
def l23_RegularTrims.C : Ctr := pureCtr [.nm 7, .lst (.nm 0)] [.bool] (some (fun (a_ : Aut × (List Tm)) => match a_ with | (a, v) => Sp.okA a ∧ Sp.okL v ∧ a.edges.length ≤ 4000000)) (fun (a_ : Aut × (List Tm)) => match a_ with | (a, v) => (true))
end Go.AL
namespace Go.AL
set_option linter.unusedVariables false
set_option maxRecDepth 10000
def l23_has.t (a : Aut) (v : (List Tm)) : Prop :=
 (Sp.okA (Aut.mk (Aut.states a) (Aut.start a) (Aut.final a) (Aut.edges a))∧Sp.okL v)∧∀ b : Bool, ∀ i : Int, ite (Sp.rcheck (Aut.mk (Aut.states a) (Aut.start a) (Aut.final a) (Aut.edges a))=0) (ite (Sp.wrong v 4=0) (Sp.bhas (Sp.baccL (Aut.mk (Aut.states a) (Aut.start a) (Aut.final a) (Aut.edges a)) v) (Aut.start a), 0) (false, Sp.wrong v 4)) (false, Sp.rcheck (Aut.mk (Aut.states a) (Aut.start a) (Aut.final a) (Aut.edges a)))=(b, i)→ite (Sp.rcheck a=0) (ite (Sp.wrong v 4=0) (Sp.bhas (Sp.baccL a v) (Aut.start a)) false) false=(b && decide (i=0))
def regular_Trim.t (a : Aut) : Prop :=
 Sp.okA (Aut.mk (Aut.states a) (Aut.start a) (Aut.final a) (Aut.edges a))∧∀ i : Int, Sp.rcheck (Aut.mk (Aut.states a) (Aut.start a) (Aut.final a) (Aut.edges a))=i→ifB (!(decide (i=0))) (ite (Sp.rcheck a=0) (Sp.rtrim a, 0) (Aut.mk 0 0 ([] : List Int) ([] : List Edg), Sp.rcheck a)=(Aut.mk 0 0 ([] : List Int) ([] : List Edg), i)) (Sp.okN (Aut.mk (Aut.states a) (Aut.start a) (Aut.final a) (Aut.edges a))∧∀ x : Aut, Sp.rtrim (Aut.mk (Aut.states a) (Aut.start a) (Aut.final a) (Aut.edges a))=x→ite (Sp.rcheck a=0) (Sp.rtrim a, 0) (Aut.mk 0 0 ([] : List Int) ([] : List Edg), Sp.rcheck a)=(Aut.mk (Aut.states x) (Aut.start x) (Aut.final x) (Aut.edges x), 0))
def l23_RegularTrims.t (a : Aut) (v : (List Tm)) : Prop :=
 List.length (Aut.edges a)≤4000000∧∀ x : Aut, Aut.mk (Aut.states a) (Aut.start a) (Aut.final a) (Aut.edges a)=x→((-1 : Int)≤40∧(40 : Int)≤1000000)∧∀ b : Bool, Sp.small23 (Aut.mk (Aut.states a) (Aut.start a) (Aut.final a) (Aut.edges a)) 40=b→((!b)=false→(-1 : Int)≤40∧(40 : Int)≤1000000)∧(((!b) || (!(Sp.small v 40)))=false→Sp.okA (Aut.mk (Aut.states x) (Aut.start x) (Aut.final x) (Aut.edges x)))∧(((!b) || (!(Sp.small v 40)) || (!(decide (Sp.rcheck (Aut.mk (Aut.states x) (Aut.start x) (Aut.final x) (Aut.edges x))=0))))=false→Sp.okL v)∧ifB ((!b) || (!(Sp.small v 40)) || (!(decide (Sp.rcheck (Aut.mk (Aut.states x) (Aut.start x) (Aut.final x) (Aut.edges x))=0))) || (!(decide (Sp.wrong v 4=0)))) (()=()∧∀ b1 : Bool, true=b1→true=b1) (Sp.okA (Aut.mk (Aut.states x) (Aut.start x) (Aut.final x) (Aut.edges x))∧∀ x1 : Aut, ∀ i : Int, ite (Sp.rcheck (Aut.mk (Aut.states x) (Aut.start x) (Aut.final x) (Aut.edges x))=0) (Sp.rtrim (Aut.mk (Aut.states x) (Aut.start x) (Aut.final x) (Aut.edges x)), 0) (Aut.mk 0 0 ([] : List Int) ([] : List Edg), Sp.rcheck (Aut.mk (Aut.states x) (Aut.start x) (Aut.final x) (Aut.edges x)))=(x1, i)→Sp.okA (Aut.mk (Aut.states x1) (Aut.start x1) (Aut.final x1) (Aut.edges x1))∧∀ x2 : Aut, ∀ i1 : Int, ite (Sp.rcheck (Aut.mk (Aut.states x1) (Aut.start x1) (Aut.final x1) (Aut.edges x1))=0) (Sp.rtrim (Aut.mk (Aut.states x1) (Aut.start x1) (Aut.final x1) (Aut.edges x1)), 0) (Aut.mk 0 0 ([] : List Int) ([] : List Edg), Sp.rcheck (Aut.mk (Aut.states x1) (Aut.start x1) (Aut.final x1) (Aut.edges x1)))=(x2, i1)→(((!(decide (i=0))) || (!(decide (i1=0))))=false→Sp.okA (Aut.mk (Aut.states x) (Aut.start x) (Aut.final x) (Aut.edges x))∧Sp.okL v)∧(((!(decide (i=0))) || (!(decide (i1=0))))=false→Sp.okA (Aut.mk (Aut.states x1) (Aut.start x1) (Aut.final x1) (Aut.edges x1))∧Sp.okL v)∧ifB ((!(decide (i=0))) || (!(decide (i1=0))) || (!(BEq.beq (ite (Sp.rcheck (Aut.mk (Aut.states x) (Aut.start x) (Aut.final x) (Aut.edges x))=0) (ite (Sp.wrong v 4=0) (Sp.bhas (Sp.baccL (Aut.mk (Aut.states x) (Aut.start x) (Aut.final x) (Aut.edges x)) v) (Aut.start x)) false) false) (ite (Sp.rcheck (Aut.mk (Aut.states x1) (Aut.start x1) (Aut.final x1) (Aut.edges x1))=0) (ite (Sp.wrong v 4=0) (Sp.bhas (Sp.baccL (Aut.mk (Aut.states x1) (Aut.start x1) (Aut.final x1) (Aut.edges x1)) v) (Aut.start x1)) false) false))) || decide (Aut.states x < Aut.states x1) || decide ((↑(List.length (Aut.edges x)) : Int) < (↑(List.length (Aut.edges x1)) : Int))) (true=false) (((decide (Aut.states x1=Aut.states x2) && decide (Aut.start x1=Aut.start x2) && decide ((↑(List.length (Aut.edges x1)) : Int)=(↑(List.length (Aut.edges x2)) : Int)) && decide ((↑(List.length (Aut.final x1)) : Int)=(↑(List.length (Aut.final x2)) : Int)))=true→()=())∧true=(decide (Aut.states x1=Aut.states x2) && decide (Aut.start x1=Aut.start x2) && decide ((↑(List.length (Aut.edges x1)) : Int)=(↑(List.length (Aut.edges x2)) : Int)) && decide ((↑(List.length (Aut.final x1)) : Int)=(↑(List.length (Aut.final x2)) : Int)) && true)))
end Go.AL
namespace Go.AL
set_option linter.unusedVariables false
set_option linter.unusedSimpArgs false
set_option maxRecDepth 10000
attribute [local irreducible] wpF wpFX wpM wpFM
theorem Sp.fixN_fix {f : Bts → Bts} (hf : Sp.inc f) : ∀ (n : Nat) (s : Bts), Sp.okW s → 448 - Sp.cnt s ≤ n → f (Sp.fixN f n s) = Sp.fixN f n s
 | 0, s, hs, hn => by
   rw [Sp.fixN]
   refine Classical.byContradiction fun hne => ?_
   have := Sp.cnt_lt hs (hf s hs).1 (hf s hs).2 hne
   have := Sp.cnt_le (f s)
   omega
 | n + 1, s, hs, hn => by
   rw [Sp.fixN]
   split
   ·assumption
   ·rename_i hne
    have := Sp.cnt_lt hs (hf s hs).1 (hf s hs).2 hne
    exact Sp.fixN_fix hf n (f s) (hf s hs).1 (by omega)
theorem Sp.fixN_ind {f : Bts → Bts} {Q : Bts → Prop} (hQ : ∀ s, Q s → Q (f s)) : ∀ (n : Nat) (s : Bts), Q s → Q (Sp.fixN f n s)
 | 0, s, hs => hs
 | n + 1, s, hs => by
   rw [Sp.fixN]
   split
   ·exact hs
   ·exact Sp.fixN_ind hQ n (f s) (hQ s hs)
structure Sp.Adds (f : Bts → Edg → Bts) (c : Bts → Edg → Prop) (tg : Edg → Int → Prop) (l : List Edg) : Prop where
 iff : ∀ e ∈ l, ∀ s, Sp.okW s → Sp.okW (f s e) ∧ ∀ n : Int, 0 ≤ n → n < 448 → (Sp.bhas (f s e) n = true ↔ (Sp.bhas s n = true ∨ (c s e ∧ tg e n)))
 mono : ∀ e ∈ l, ∀ s t, Sp.sub s t → c s e → c t e
theorem Sp.Adds.tail {f : Bts → Edg → Bts} {c : Bts → Edg → Prop} {tg : Edg → Int → Prop} {e : Edg} {l : List Edg} (h : Sp.Adds f c tg (e :: l)) : Sp.Adds f c tg l :=
 ⟨fun e he => h.iff e (by simp [he]), fun e he => h.mono e (by simp [he])⟩
theorem Sp.Adds.fold {f : Bts → Edg → Bts} {c : Bts → Edg → Prop} {tg : Edg → Int → Prop} : ∀ {l : List Edg}, Sp.Adds f c tg l → ∀ s, Sp.okW s →
  (Sp.okW (l.foldl f s) ∧ Sp.sub s (l.foldl f s)) ∧ ∀ e ∈ l, c s e → ∀ n : Int, 0 ≤ n → n < 448 → tg e n → Sp.bhas (l.foldl f s) n = true
 | [], _, s, hs => ⟨⟨hs, Sp.sub_refl s⟩, fun e he => by cases he⟩
 | e :: l, h, s, hs => by
   obtain ⟨h1, h2⟩ := h.iff e (by simp) s hs
   have hsub : Sp.sub s (f s e) := fun n h0 h4 hn => (h2 n h0 h4).2 (.inl hn)
   obtain ⟨⟨k1, k2⟩, k3⟩ := Sp.Adds.fold h.tail (f s e) h1
   refine ⟨⟨k1, Sp.sub_trans hsub k2⟩, fun e' he' hc n h0 h4 ht => ?_⟩
   rcases List.mem_cons.1 he' with rfl | he'
   ·exact k2 n h0 h4 ((h2 n h0 h4).2 (.inr ⟨hc, ht⟩))
   ·exact k3 e' he' (h.mono e' (by simp [he']) s _ hsub hc) n h0 h4 ht
theorem Sp.Adds.ind {f : Bts → Edg → Bts} {c : Bts → Edg → Prop} {tg : Edg → Int → Prop} {P : Int → Prop} : ∀ {l : List Edg}, Sp.Adds f c tg l →
  (∀ e ∈ l, ∀ s, Sp.okW s → (∀ n : Int, 0 ≤ n → n < 448 → Sp.bhas s n = true → P n) → c s e → ∀ n : Int, tg e n → P n) →
  ∀ s, (Sp.okW s ∧ ∀ n : Int, 0 ≤ n → n < 448 → Sp.bhas s n = true → P n) → (Sp.okW (l.foldl f s) ∧ ∀ n : Int, 0 ≤ n → n < 448 → Sp.bhas (l.foldl f s) n = true → P n)
 | [], _, _, s, hs => hs
 | e :: l, h, hp, s, hs => by
   obtain ⟨h1, h2⟩ := h.iff e (by simp) s hs.1
   refine Sp.Adds.ind h.tail (fun e' he' => hp e' (by simp [he'])) (f s e) ⟨h1, fun n h0 h4 hn => ?_⟩
   rcases (h2 n h0 h4).1 hn with hn | ⟨hc, ht⟩
   ·exact hs.2 n h0 h4 hn
   ·exact hp e (by simp) s hs.1 hs.2 hc n ht
theorem Sp.good_iff (e : Edg) (s : Bts) : Sp.good e s = true ↔ Sp.bhas s e.dst = true ∧ (e.kind = 2 → (e.exc.length : Int) < 256) ∧ (e.kind = 5 → Sp.bhas s e.inner = true) := by
 simp only [Sp.good, Bool.and_eq_true, Bool.or_eq_true, decide_eq_true_eq]
 constructor
 ·rintro ⟨⟨h1, h2⟩, h3⟩
  exact ⟨h1, fun h => h2.resolve_left (fun k => k h), fun h => h3.resolve_left (fun k => k h)⟩
 ·rintro ⟨h1, h2, h3⟩
  refine ⟨⟨h1, ?_⟩, ?_⟩
  ·by_cases h : e.kind = 2
   ·exact .inr (h2 h)
   ·exact .inl h
  ·by_cases h : e.kind = 5
   ·exact .inr (h3 h)
   ·exact .inl h
theorem Sp.put_iff {s : Bts} (hs : Sp.okW s) {m : Int} (h0 : 0 ≤ m) (h : m < 400) {n : Int} (n0 : 0 ≤ n) (n4 : n < 448) : Sp.bhas (Sp.bput s m) n = true ↔ (Sp.bhas s n = true ∨ n = m) := by
 rw [Sp.bhas_put hs h0 (by omega) n0 n4, Bool.or_eq_true, decide_eq_true_eq, or_comm]
theorem Sp.adds1 {l : List Edg} (h : ∀ e ∈ l, Sp.okE e) : Sp.Adds Sp.g1s (fun s e => Sp.good e s = true) (fun e n => n = e.src) l := by
 refine ⟨fun e he s hs => ⟨(Sp.g1s_inc (h e he) hs).1, fun n n0 n4 => ?_⟩, fun e he s t hst hc => ?_⟩
 ·unfold Sp.g1s
  split
  ·rename_i hg
   rw [Sp.put_iff hs (h e he).1.1 (h e he).1.2 n0 n4]
   simp [hg]
  ·rename_i hg
   simp [hg]
 ·obtain ⟨q1, q2, q3, q4⟩ := h e he
  rw [Sp.good_iff] at hc ⊢
  exact ⟨hst _ q2.1 (by omega) hc.1, hc.2.1, fun h5 => hst _ (q4 h5).1 (by have := q4 h5; omega) (hc.2.2 h5)⟩
theorem Sp.adds2 (al : Bts) {l : List Edg} (h : ∀ e ∈ l, Sp.okE e) : Sp.Adds (Sp.g2s al) (fun s e => Sp.bhas s e.src = true ∧ Sp.good e al = true) (fun e n => n = e.dst ∨ (e.kind = 5 ∧ n = e.inner)) l := by
 refine ⟨fun e he s hs => ⟨(Sp.g2s_inc al (h e he) hs).1, fun n n0 n4 => ?_⟩, fun e he s t hst hc => ⟨hst _ (h e he).1.1 (by have := (h e he).1; omega) hc.1, hc.2⟩⟩
 obtain ⟨q1, q2, q3, q4⟩ := h e he
 unfold Sp.g2s
 split
 ·rename_i hg
  rw [Bool.and_eq_true] at hg
  split
  ·rename_i h5
   rw [Sp.put_iff (Sp.put_inc hs q2.1 q2.2).1 (q4 h5).1 (q4 h5).2 n0 n4, Sp.put_iff hs q2.1 q2.2 n0 n4]
   simp [hg, h5, or_assoc]
  ·rename_i h5
   rw [Sp.put_iff hs q2.1 q2.2 n0 n4]
   simp [hg, h5]
 ·rename_i hg
  rw [Bool.and_eq_true] at hg
  simp [hg]
theorem Sp.fin_iff : ∀ {l : List Int} {s : Bts}, (∀ f ∈ l, 0 ≤ f ∧ f < 400) → Sp.okW s → ∀ n : Int, 0 ≤ n → n < 448 → (Sp.bhas (Sp.bfin l s) n = true ↔ (Sp.bhas s n = true ∨ n ∈ l))
 | [], s, _, hs, n, h0, h4 => by
   show Sp.bhas s n = true ↔ _
   simp
 | f :: l, s, h, hs, n, h0, h4 => by
   show Sp.bhas (Sp.bfin l (Sp.bput s f)) n = true ↔ _
   have hf := h f (by simp)
   rw [Sp.fin_iff (fun g hg => h g (by simp [hg])) (Sp.put_inc hs hf.1 hf.2).1 n h0 h4, Sp.put_iff hs hf.1 hf.2 h0 h4, List.mem_cons, or_assoc]
theorem Sp.alive_ok {a : Aut} (ha : Sp.okN a) : Sp.okW (Sp.alive a) ∧ (∀ f ∈ a.final, Sp.bhas (Sp.alive a) f = true) ∧ ∀ e ∈ a.edges, Sp.good e (Sp.alive a) = true → Sp.bhas (Sp.alive a) e.src = true := by
 have hE := Sp.okN_E ha
 have hA := Sp.adds1 hE
 have hF := Sp.okN_F ha
 have hfin : ∀ f ∈ a.final, 0 ≤ f ∧ f < 400 := fun f hf => by have := ha.2.2.1 f hf; have := ha.1; omega
 have hi := Sp.g1_inc hE
 have hw : Sp.okW (Sp.alive a) ∧ Sp.sub (Sp.bfin a.final Sp.bz) (Sp.alive a) :=
  Sp.fixN_ind (Q := fun s => Sp.okW s ∧ Sp.sub (Sp.bfin a.final Sp.bz) s) (fun s hs => ⟨(hi s hs.1).1, Sp.sub_trans hs.2 (hi s hs.1).2⟩) _ _ ⟨hF, Sp.sub_refl _⟩
 refine ⟨hw.1, fun f hf => hw.2 f (hfin f hf).1 (by have := hfin f hf; omega) ((Sp.fin_iff hfin Sp.okW_bz f (hfin f hf).1 (by have := hfin f hf; omega)).2 (.inr hf)), fun e he hg => ?_⟩
 have h1 := (hA.fold (Sp.alive a) hw.1).2 e he hg e.src (hE e he).1.1 (by have := (hE e he).1; omega) rfl
 have h2 : Sp.g1 a.edges (Sp.alive a) = Sp.alive a := Sp.fixN_fix hi 449 _ hF (by omega)
 exact h2 ▸ h1
theorem Sp.alive_ind {a : Aut} (ha : Sp.okN a) {P : Int → Prop} (h1 : ∀ f ∈ a.final, P f) (h2 : ∀ e ∈ a.edges, P e.dst → (e.kind = 2 → (e.exc.length : Int) < 256) → (e.kind = 5 → P e.inner) → P e.src) :
  ∀ n : Int, 0 ≤ n → n < 448 → Sp.bhas (Sp.alive a) n = true → P n := by
 have hE := Sp.okN_E ha
 have hA := Sp.adds1 hE
 have hF := Sp.okN_F ha
 have hfin : ∀ f ∈ a.final, 0 ≤ f ∧ f < 400 := fun f hf => by have := ha.2.2.1 f hf; have := ha.1; omega
 refine (Sp.fixN_ind (Q := fun s => Sp.okW s ∧ ∀ n : Int, 0 ≤ n → n < 448 → Sp.bhas s n = true → P n) (fun s hs => ?_) 449 _ ⟨hF, fun n n0 n4 hn => ?_⟩).2
 ·refine hA.ind (fun e he s hs hp hg n hn => ?_) s hs
  subst hn
  obtain ⟨q1, q2, q3, q4⟩ := hE e he
  rw [Sp.good_iff] at hg
  exact h2 e he (hp _ q2.1 (by omega) hg.1) hg.2.1 fun h5 => hp _ (q4 h5).1 (by have := q4 h5; omega) (hg.2.2 h5)
 ·rcases (Sp.fin_iff hfin Sp.okW_bz n n0 n4).1 hn with hn | hn
  ·rw [Sp.bhas_bz n0 n4] at hn; cases hn
  ·exact h1 n hn
theorem Sp.reach_ok {a : Aut} (ha : Sp.okN a) : Sp.okW (Sp.reach a) ∧ Sp.bhas (Sp.reach a) a.start = true ∧ ∀ e ∈ a.edges, Sp.bhas (Sp.reach a) e.src = true → Sp.good e (Sp.alive a) = true → Sp.bhas (Sp.reach a) e.dst = true ∧ (e.kind = 5 → Sp.bhas (Sp.reach a) e.inner = true) := by
 have hE := Sp.okN_E ha
 have hA := Sp.adds2 (Sp.alive a) hE
 have hF := Sp.okN_S ha
 have hst : 0 ≤ a.start ∧ a.start < 400 := by have := ha.2.1; have := ha.1; omega
 have hi := Sp.g2_inc (Sp.alive a) hE
 have hw : Sp.okW (Sp.reach a) ∧ Sp.sub (Sp.bput Sp.bz a.start) (Sp.reach a) :=
  Sp.fixN_ind (Q := fun s => Sp.okW s ∧ Sp.sub (Sp.bput Sp.bz a.start) s) (fun s hs => ⟨(hi s hs.1).1, Sp.sub_trans hs.2 (hi s hs.1).2⟩) _ _ ⟨hF, Sp.sub_refl _⟩
 refine ⟨hw.1, hw.2 _ hst.1 (by omega) ((Sp.put_iff Sp.okW_bz hst.1 hst.2 hst.1 (by omega)).2 (.inr rfl)), fun e he hs hg => ?_⟩
 have h1 := (hA.fold (Sp.reach a) hw.1).2 e he ⟨hs, hg⟩
 have h2 : Sp.g2 (Sp.alive a) a.edges (Sp.reach a) = Sp.reach a := Sp.fixN_fix hi 449 _ hF (by omega)
 have h3 : a.edges.foldl (Sp.g2s (Sp.alive a)) (Sp.reach a) = Sp.reach a := h2
 rw [h3] at h1
 obtain ⟨q1, q2, q3, q4⟩ := hE e he
 exact ⟨h1 _ q2.1 (by omega) (.inl rfl), fun h5 => h1 _ (q4 h5).1 (by have := q4 h5; omega) (.inr ⟨h5, rfl⟩)⟩
theorem Sp.reach_ind {a : Aut} (ha : Sp.okN a) {P : Int → Prop} (h1 : P a.start) (h2 : ∀ e ∈ a.edges, P e.src → Sp.good e (Sp.alive a) = true → P e.dst ∧ (e.kind = 5 → P e.inner)) :
  ∀ n : Int, 0 ≤ n → n < 448 → Sp.bhas (Sp.reach a) n = true → P n := by
 have hE := Sp.okN_E ha
 have hA := Sp.adds2 (Sp.alive a) hE
 have hF := Sp.okN_S ha
 have hst : 0 ≤ a.start ∧ a.start < 400 := by have := ha.2.1; have := ha.1; omega
 refine (Sp.fixN_ind (Q := fun s => Sp.okW s ∧ ∀ n : Int, 0 ≤ n → n < 448 → Sp.bhas s n = true → P n) (fun s hs => ?_) 449 _ ⟨hF, fun n n0 n4 hn => ?_⟩).2
 ·refine hA.ind (fun e he s hs hp hg n hn => ?_) s hs
  obtain ⟨q1, q2, q3, q4⟩ := hE e he
  have hk := h2 e he (hp _ q1.1 (by omega) hg.1) hg.2
  rcases hn with rfl | ⟨h5, rfl⟩
  ·exact hk.1
  ·exact hk.2 h5
 ·rcases (Sp.put_iff Sp.okW_bz hst.1 hst.2 n0 n4).1 hn with hn | hn
  ·rw [Sp.bhas_bz n0 n4] at hn; cases hn
  ·rw [hn]; exact h1
theorem Sp.rank_mono (p : Int → Bool) {m n : Nat} (h : m ≤ n) : Sp.rank p m ≤ Sp.rank p n := by
 induction n with
 | zero => rw [show m = 0 by omega]; exact Int.le_refl _
 | succ n ih =>
   by_cases e : m = n + 1
   ·rw [e]; exact Int.le_refl _
   ·have := ih (by omega)
    rw [Sp.rank]
    split <;> omega
theorem Sp.rank_lt (p : Int → Bool) {m n : Nat} (h : m < n) (hp : p m = true) : Sp.rank p m < Sp.rank p n := by
 have := Sp.rank_mono p (show m + 1 ≤ n by omega)
 rw [Sp.rank, if_pos hp] at this
 omega
theorem Sp.rank_surj (p : Int → Bool) : ∀ (n : Nat) (k : Int), 0 ≤ k → k < Sp.rank p n → ∃ m : Nat, m < n ∧ p m = true ∧ Sp.rank p m = k
 | 0, k, h0, h => by simp [Sp.rank] at h; omega
 | n + 1, k, h0, h => by
   by_cases hk : k < Sp.rank p n
   ·obtain ⟨m, h1, h2, h3⟩ := Sp.rank_surj p n k h0 hk
    exact ⟨m, by omega, h2, h3⟩
   ·rw [Sp.rank] at h
    by_cases hp : p n = true
    ·rw [if_pos hp] at h
     exact ⟨n, by omega, hp, by omega⟩
    ·rw [if_neg hp] at h; omega
theorem Sp.rank_all {p : Int → Bool} : ∀ (n : Nat), (∀ k : Nat, k < n → p k = true) → Sp.rank p n = n
 | 0, _ => rfl
 | n + 1, h => by
   rw [Sp.rank, Sp.rank_all n fun k hk => h k (by omega), if_pos (h n (by omega))]; push_cast; rfl
theorem Sp.toL_nth (p : Int → Bool) {N : Nat} {n : Int} (h0 : 0 ≤ n) (h : n < N) : nth 0 (Sp.toL p N) n = Sp.toR p n.toNat := by
 unfold nth Sp.toL
 rw [List.getD_eq_getElem?_getD, List.getElem?_map, List.getElem?_range (by omega)]
 rfl
mutual
theorem Sp.cmpT_zero : ∀ {t u : Tm}, Sp.cmpT t u = 0 → t = u
 | .mk k s ks, .mk k' s' ks', h => by
   rw [Sp.cmpT_eq] at h
   by_cases e : (Tm.mk k s ks).kind = (Tm.mk k' s' ks').kind
   ·rw [if_pos e] at h
    by_cases e2 : Sp.sign (Tm.mk k s ks).text (Tm.mk k' s' ks').text = 0
    ·rw [if_pos e2] at h
     have e' : k = k' := e
     have e2' : s = s' := Sp.sign_zero.1 e2
     have h' : Sp.cmpL ks ks' = 0 := h
     rw [e', e2', Sp.cmpL_zero h']
    ·rw [if_neg e2] at h; exact absurd h e2
   ·rw [if_neg e] at h
    by_cases e3 : (Tm.mk k s ks).kind < (Tm.mk k' s' ks').kind
    ·rw [if_pos e3] at h; cases h
    ·rw [if_neg e3] at h; cases h
theorem Sp.cmpL_zero : ∀ {l m : List Tm}, Sp.cmpL l m = 0 → l = m
 | [], b, h => by
   rw [Sp.cmpL] at h
   by_cases e : b.length = 0
   ·exact (List.length_eq_zero_iff.1 e).symm
   ·rw [if_neg e] at h; cases h
 | t :: l, [], h => by rw [Sp.cmpL] at h; cases h
 | t :: l, u :: m, h => by
   rw [Sp.cmpL] at h
   by_cases e : Sp.cmpT t u = 0
   ·rw [if_pos e] at h
    rw [Sp.cmpT_zero e, Sp.cmpL_zero h]
   ·rw [if_neg e] at h; contradiction
end
theorem Sp.sameE_iff (a b : Edg) : Sp.sameE a b = true ↔ a = b := by
 simp only [Sp.sameE, Bool.and_eq_true, decide_eq_true_eq]
 constructor
 ·rintro ⟨⟨⟨⟨⟨h1, h2⟩, h3⟩, h4⟩, h5⟩, h6⟩
  have h5' := Sp.cmpL_zero h5
  simp only [List.cons.injEq, and_true] at h5'
  have h6' := Sp.cmpL_zero h6
  cases a; cases b
  simp only [Edg.mk.injEq]
  exact ⟨h1, h2, h3, h5', h6', h4⟩
 ·rintro rfl
  exact ⟨⟨⟨⟨⟨rfl, rfl⟩, rfl⟩, rfl⟩, Sp.cmpL_refl _⟩, Sp.cmpL_refl _⟩
theorem Sp.rcheck_iff (a : Aut) : Sp.rcheck a = 0 ↔ a.states ≤ 400 ∧ (a.final.length : Int) ≤ 400 ∧ (a.edges.length : Int) ≤ 4000 ∧ (∀ e ∈ a.edges, (e.exc.length : Int) ≤ 100) ∧ 1 ≤ a.states ∧ Sp.rstate a a.start = true ∧ Sp.rfin a none a.final = true ∧ ∀ e ∈ a.edges, Sp.rright a e = true := by
 unfold Sp.rcheck
 by_cases h1 : 400 < a.states ∨ 400 < (a.final.length : Int) ∨ 4000 < (a.edges.length : Int)
 ·rw [if_pos h1]
  constructor
  ·intro h; cases h
  ·rintro ⟨a1, a2, a3, _⟩; omega
 rw [if_neg h1]
 by_cases h2 : a.edges.any (fun e => decide (100 < (e.exc.length : Int))) = true
 ·rw [if_pos h2]
  constructor
  ·intro h; cases h
  ·rintro ⟨a1, a2, a3, a4, _⟩
   obtain ⟨e, he, h3⟩ := List.any_eq_true.1 h2
   have := a4 e he
   simp only [decide_eq_true_eq] at h3; omega
 rw [if_neg h2]
 have h2' : ∀ e ∈ a.edges, (e.exc.length : Int) ≤ 100 := by
  intro e he
  refine Classical.byContradiction fun hn => h2 (List.any_eq_true.2 ⟨e, he, ?_⟩)
  simp only [decide_eq_true_eq]; omega
 by_cases h3 : a.states < 1 ∨ Sp.rstate a a.start = false
 ·rw [if_pos h3]
  constructor
  ·intro h; cases h
  ·rintro ⟨_, _, _, _, a5, a6, _⟩
   rcases h3 with h3 | h3
   ·omega
   ·rw [a6] at h3; cases h3
 rw [if_neg h3]
 have h3' : 1 ≤ a.states ∧ Sp.rstate a a.start = true := by
  rw [not_or] at h3
  refine ⟨by omega, ?_⟩
  cases hx : Sp.rstate a a.start with
  | true => rfl
  | false => exact absurd hx h3.2
 by_cases h4 : Sp.rfin a none a.final = true
 ·rw [if_pos h4]
  by_cases h5 : a.edges.all (Sp.rright a) = true
  ·rw [if_pos h5]
   exact ⟨fun _ => ⟨by omega, by omega, by omega, h2', h3'.1, h3'.2, h4, List.all_eq_true.1 h5⟩, fun _ => rfl⟩
  ·rw [if_neg h5]
   constructor
   ·intro h; cases h
   ·rintro ⟨_, _, _, _, _, _, _, a8⟩; exact absurd (List.all_eq_true.2 a8) h5
 ·rw [if_neg h4]
  constructor
  ·intro h; cases h
  ·rintro ⟨_, _, _, _, _, _, a7, _⟩; exact absurd a7 h4
theorem Sp.rfin_iff (a : Aut) : ∀ (l : List Int) (p : Option Int), Sp.rfin a p l = true ↔ (∀ f ∈ l, Sp.rstate a f = true) ∧ l.Pairwise (· < ·) ∧ ∀ q, p = some q → ∀ f ∈ l, q < f
 | [], p => by simp [Sp.rfin]
 | f :: l, p => by
   rw [Sp.rfin_cons, Bool.and_eq_true, Bool.and_eq_true, Sp.rfin_iff a l (some f), List.pairwise_cons]
   constructor
   ·rintro ⟨⟨h1, h2⟩, h3, h4, h5⟩
    refine ⟨fun g hg => ?_, ⟨h5 f rfl, h4⟩, fun q hq g hg => ?_⟩
    ·rcases List.mem_cons.1 hg with rfl | hg
     ·exact h1
     ·exact h3 g hg
    ·subst hq
     simp only [decide_eq_true_eq] at h2
     rcases List.mem_cons.1 hg with rfl | hg
     ·exact h2
     ·exact Int.lt_trans h2 (h5 f rfl g hg)
   ·rintro ⟨h1, ⟨h2, h3⟩, h4⟩
    refine ⟨⟨h1 f (by simp), ?_⟩, fun g hg => h1 g (by simp [hg]), h3, fun q hq => ?_⟩
    ·cases p with
     | none => rfl
     | some q => exact decide_eq_true (h4 q rfl f (by simp))
    ·cases hq; exact h2
theorem Sp.rsym_nodes {t : Tm} (h : Sp.rsym t = true) : Sp.nodesT t ≤ 4000 := by
 simp only [Sp.rsym, Bool.and_eq_true, decide_eq_true_eq, Sp.wrong] at h
 have h2 := h.2
 split at h2
 ·cases h2
 ·rename_i h3
  simp only [Sp.nodesL] at h3; omega
theorem Sp.rexc_nodes {k : Int} : ∀ {l : List Tm} {p : Option Tm}, Sp.rexc k p l = true → Sp.nodesL l ≤ 4000 * l.length
 | [], p, _ => by simp [Sp.nodesL]
 | t :: l, p, h => by
   rw [Sp.rexc_cons, Bool.and_eq_true, Bool.and_eq_true, Bool.and_eq_true] at h
   have h1 := Sp.rsym_nodes h.1.1.1
   have h2 := Sp.rexc_nodes h.2
   simp only [Sp.nodesL, List.length_cons]; omega
theorem Sp.okN_of {a : Aut} (h : Sp.rcheck a = 0) : Sp.okN a := by
 have hi := (Sp.rcheck_iff a).1 h
 obtain ⟨c1, c2, c3, c4, c5, c6, c7⟩ := Sp.rcheck_ok h
 refine ⟨⟨c2, c1⟩, c3, c4, by omega, by omega, fun e he => ?_⟩
 have hr := c7 e he
 obtain ⟨q1, q2, q3, q4⟩ := Sp.rright_ok hr
 refine ⟨q1, q2, q3, q4, ?_⟩
 simp only [Sp.rright, Bool.and_eq_true] at hr
 have h1 := Sp.rexc_nodes hr.1.2
 have h2 := hi.2.2.2.1 e he
 unfold Sp.okL; omega
theorem Sp.any_same (x : Edg) (o : List Edg) : o.any (Sp.sameE x) = true ↔ x ∈ o := by
 rw [List.any_eq_true]
 constructor
 ·rintro ⟨y, hy, h⟩
  rw [(Sp.sameE_iff x y).1 h]; exact hy
 ·intro h
  exact ⟨x, h, (Sp.sameE_iff x x).2 rfl⟩
theorem Sp.tre_mem (al re : Bts) (to : List Int) (x : Edg) : ∀ (l o : List Edg), x ∈ l.foldl (Sp.tre al re to) o ↔ (x ∈ o ∨ ∃ e ∈ l, (Sp.good e al && Sp.bhas re e.src) = true ∧ x = Sp.image to e)
 | [], o => by simp
 | e :: l, o => by
   rw [List.foldl_cons, Sp.tre_mem al re to x l]
   have key : x ∈ Sp.tre al re to o e ↔ x ∈ o ∨ ((Sp.good e al && Sp.bhas re e.src) = true ∧ x = Sp.image to e) := by
    unfold Sp.tre
    by_cases h1 : (Sp.good e al && Sp.bhas re e.src) = true
    ·rw [if_pos h1]
     by_cases h2 : o.any (Sp.sameE (Sp.image to e)) = true
     ·rw [if_pos h2]
      refine ⟨.inl, fun h => h.elim id fun h => ?_⟩
      rw [h.2]; exact (Sp.any_same _ _).1 h2
     ·rw [if_neg h2, List.mem_append, List.mem_singleton]
      exact ⟨fun h => h.imp id fun h => ⟨h1, h⟩, fun h => h.imp id fun h => h.2⟩
    ·rw [if_neg h1]
     exact ⟨.inl, fun h => h.elim id fun h => absurd h.1 h1⟩
   rw [key]
   simp only [List.mem_cons, or_and_right, exists_or, exists_eq_left, or_assoc]
theorem Sp.tre_nodup (al re : Bts) (to : List Int) : ∀ (l o : List Edg), o.Nodup → (l.foldl (Sp.tre al re to) o).Nodup
 | [], o, h => h
 | e :: l, o, h => by
   refine Sp.tre_nodup al re to l _ ?_
   unfold Sp.tre
   split
   ·split
    ·exact h
    ·rename_i h2
     rw [List.nodup_append]
     refine ⟨h, by simp, fun x hx y hy => ?_⟩
     rw [List.mem_singleton] at hy
     rintro rfl
     exact h2 ((Sp.any_same _ _).2 (hy ▸ hx))
   ·exact h
theorem Sp.tre_len (al re : Bts) (to : List Int) : ∀ (l o : List Edg), (l.foldl (Sp.tre al re to) o).length ≤ o.length + l.length
 | [], o => by simp
 | e :: l, o => by
   have h := Sp.tre_len al re to l (Sp.tre al re to o e)
   have h2 : (Sp.tre al re to o e).length ≤ o.length + 1 := by
    unfold Sp.tre
    split
    ·split <;> simp
    ·omega
   rw [List.foldl_cons, List.length_cons]; omega
theorem Sp.tre_id (al re : Bts) (to : List Int) : ∀ (l o : List Edg), (∀ e ∈ l, (Sp.good e al && Sp.bhas re e.src) = true ∧ Sp.image to e = e) → (o ++ l).Nodup → l.foldl (Sp.tre al re to) o = o ++ l
 | [], o, _, _ => by simp
 | e :: l, o, h, hn => by
   have he := h e (by simp)
   have h1 : Sp.tre al re to o e = o ++ [e] := by
    unfold Sp.tre
    rw [if_pos he.1, he.2, if_neg]
    intro h2
    have h3 := (Sp.any_same _ _).1 h2
    rw [List.nodup_append] at hn
    exact hn.2.2 e h3 e (by simp) rfl
   rw [List.foldl_cons, h1, Sp.tre_id al re to l (o ++ [e]) (fun e he => h e (by simp [he])) (by simpa using hn)]
   simp
def Sp.num (a : Aut) (q : Int) : Int := Sp.rank (Sp.pA a) q.toNat
theorem Sp.rtrim_alive {a : Aut} (hs : Sp.bhas (Sp.alive a) a.start = true) : Sp.rtrim a = ⟨Sp.rank (Sp.pA a) a.states.toNat, nth 0 (Sp.toA a) a.start, (a.final.filter (Sp.bhas (Sp.reach a))).map (nth 0 (Sp.toA a)), a.edges.foldl (Sp.tre (Sp.alive a) (Sp.reach a) (Sp.toA a)) []⟩ := by
 rw [Sp.rtrim, if_pos hs]
def Sp.kept (a : Aut) (q : Int) : Prop := (0 ≤ q ∧ q < a.states) ∧ Sp.bhas (Sp.reach a) q = true ∧ Sp.bhas (Sp.alive a) q = true
theorem Sp.kept_of {a : Aut} (ha : Sp.okN a) (hs : Sp.bhas (Sp.alive a) a.start = true) {q : Int} (h0 : 0 ≤ q) (h4 : q < 448) (hq : Sp.bhas (Sp.reach a) q = true) : Sp.kept a q := by
 have h := Sp.reach_ind ha (P := fun n => (0 ≤ n ∧ n < a.states) ∧ Sp.bhas (Sp.alive a) n = true) ⟨ha.2.1, hs⟩ (fun e he _ hg => ?_) q h0 h4 hq
 ·exact ⟨h.1, hq, h.2⟩
 ·obtain ⟨q1, q2, q3, q4, q5⟩ := ha.2.2.2.2.2 e he
  have hg' := (Sp.good_iff e _).1 hg
  exact ⟨⟨q2, hg'.1⟩, fun h5 => ⟨q4 h5, hg'.2.2 h5⟩⟩
theorem Sp.kept_p {a : Aut} {q : Int} (h : Sp.kept a q) : Sp.pA a (q.toNat : Nat) = true := by
 rw [show ((q.toNat : Nat) : Int) = q by have := h.1; omega, Sp.pA, h.2.1, h.2.2]; rfl
theorem Sp.num_at {a : Aut} {q : Int} (h : Sp.kept a q) : nth 0 (Sp.toA a) q = Sp.num a q := by
 rw [Sp.toA, Sp.toL_nth _ h.1.1 (by have := h.1; omega), Sp.toR, if_pos (Sp.kept_p h), Sp.num]
theorem Sp.num_bd {a : Aut} {q : Int} (h : Sp.kept a q) : 0 ≤ Sp.num a q ∧ Sp.num a q < Sp.rank (Sp.pA a) a.states.toNat :=
 ⟨(Sp.rank_bd _ _).1, Sp.rank_lt _ (by have := h.1; omega) (Sp.kept_p h)⟩
theorem Sp.num_lt {a : Aut} {q r : Int} (h : Sp.kept a q) (h1 : q < r) : Sp.num a q < Sp.num a r :=
 Sp.rank_lt _ (by have := h.1; omega) (Sp.kept_p h)
theorem Sp.num_inj {a : Aut} {q r : Int} (h : Sp.kept a q) (k : Sp.kept a r) (e : Sp.num a q = Sp.num a r) : q = r := by
 rcases Int.lt_trichotomy q r with h1 | h1 | h1
 ·have := Sp.num_lt h h1; omega
 ·exact h1
 ·have := Sp.num_lt k h1; omega
theorem Sp.num_surj {a : Aut} (ha : Sp.okN a) (hs : Sp.bhas (Sp.alive a) a.start = true) {k : Int} (h0 : 0 ≤ k) (h : k < Sp.rank (Sp.pA a) a.states.toNat) : ∃ q, Sp.kept a q ∧ Sp.num a q = k := by
 obtain ⟨m, h1, h2, h3⟩ := Sp.rank_surj (Sp.pA a) a.states.toNat k h0 h
 rw [Sp.pA, Bool.and_eq_true] at h2
 exact ⟨m, ⟨by omega, h2.1, h2.2⟩, by rw [Sp.num, Int.toNat_natCast, h3]⟩
def Sp.img (a : Aut) (e : Edg) : Edg := ⟨Sp.num a e.src, Sp.num a e.dst, e.kind, e.sym, e.exc, if e.kind = 5 then Sp.num a e.inner else 0⟩
def Sp.keptE (a : Aut) (e : Edg) : Prop := e ∈ a.edges ∧ Sp.good e (Sp.alive a) = true ∧ Sp.kept a e.src ∧ Sp.kept a e.dst ∧ (e.kind = 5 → Sp.kept a e.inner)
theorem Sp.keptE_of {a : Aut} (ha : Sp.okN a) (hs : Sp.bhas (Sp.alive a) a.start = true) {e : Edg} (he : e ∈ a.edges) (hg : Sp.good e (Sp.alive a) = true) (hr : Sp.bhas (Sp.reach a) e.src = true) : Sp.keptE a e := by
 obtain ⟨q1, q2, q3, q4, q5⟩ := ha.2.2.2.2.2 e he
 have hN := ha.1
 have h := (Sp.reach_ok ha).2.2 e he hr hg
 exact ⟨he, hg, Sp.kept_of ha hs q1.1 (by omega) hr, Sp.kept_of ha hs q2.1 (by omega) h.1, fun h5 => Sp.kept_of ha hs (q4 h5).1 (by have := q4 h5; omega) (h.2 h5)⟩
theorem Sp.image_at {a : Aut} {e : Edg} (h : Sp.keptE a e) : Sp.image (Sp.toA a) e = Sp.img a e := by
 unfold Sp.image Sp.img
 rw [Sp.num_at h.2.2.1, Sp.num_at h.2.2.2.1]
 by_cases h5 : e.kind = 5
 ·rw [if_pos h5, if_pos h5, Sp.num_at (h.2.2.2.2 h5)]
 ·rw [if_neg h5, if_neg h5]
theorem Sp.y_edges {a : Aut} (ha : Sp.okN a) (hs : Sp.bhas (Sp.alive a) a.start = true) (x : Edg) : x ∈ (Sp.rtrim a).edges ↔ ∃ e, Sp.keptE a e ∧ x = Sp.img a e := by
 rw [Sp.rtrim_alive hs]
 show x ∈ a.edges.foldl (Sp.tre (Sp.alive a) (Sp.reach a) (Sp.toA a)) [] ↔ _
 rw [Sp.tre_mem]
 constructor
 ·rintro (h | ⟨e, he, h1, h2⟩)
  ·cases h
  ·rw [Bool.and_eq_true] at h1
   have hk := Sp.keptE_of ha hs he h1.1 h1.2
   exact ⟨e, hk, by rw [h2, Sp.image_at hk]⟩
 ·rintro ⟨e, hk, rfl⟩
  exact .inr ⟨e, hk.1, by rw [hk.2.1, hk.2.2.1.2.1]; rfl, (Sp.image_at hk).symm⟩
theorem Sp.y_final {a : Aut} (ha : Sp.okN a) (hs : Sp.bhas (Sp.alive a) a.start = true) : (Sp.rtrim a).final = (a.final.filter (Sp.bhas (Sp.reach a))).map (Sp.num a) ∧ ∀ f ∈ a.final.filter (Sp.bhas (Sp.reach a)), f ∈ a.final ∧ Sp.kept a f := by
 have h1 : ∀ f ∈ a.final.filter (Sp.bhas (Sp.reach a)), f ∈ a.final ∧ Sp.kept a f := by
  intro f hf
  rw [List.mem_filter] at hf
  have := ha.2.2.1 f hf.1
  have := ha.1
  exact ⟨hf.1, Sp.kept_of ha hs (by omega) (by omega) hf.2⟩
 refine ⟨?_, h1⟩
 rw [Sp.rtrim_alive hs]
 exact List.map_congr_left fun f hf => Sp.num_at (h1 f hf).2
theorem Sp.kept_start {a : Aut} (ha : Sp.okN a) (hs : Sp.bhas (Sp.alive a) a.start = true) : Sp.kept a a.start := ⟨ha.2.1, (Sp.reach_ok ha).2.1, hs⟩
theorem Sp.y_check {a : Aut} (h : Sp.rcheck a = 0) (hs : Sp.bhas (Sp.alive a) a.start = true) : Sp.rcheck (Sp.rtrim a) = 0 := by
 have ha := Sp.okN_of h
 obtain ⟨c1, c2, c3, c4, c5, c6, c7, c8⟩ := (Sp.rcheck_iff a).1 h
 have hst : (Sp.rtrim a).states = Sp.rank (Sp.pA a) a.states.toNat := by rw [Sp.rtrim_alive hs]
 have hss : (Sp.rtrim a).start = Sp.num a a.start := by rw [Sp.rtrim_alive hs]; exact Sp.num_at (Sp.kept_start ha hs)
 have hb := Sp.num_bd (Sp.kept_start ha hs)
 have hr := (Sp.rank_bd (Sp.pA a) a.states.toNat).2
 obtain ⟨hf1, hf2⟩ := Sp.y_final ha hs
 have hstate : ∀ q, Sp.kept a q → Sp.rstate (Sp.rtrim a) (Sp.num a q) = true := by
  intro q hq
  have := Sp.num_bd hq
  simp only [Sp.rstate, Bool.and_eq_true, decide_eq_true_eq, hst]
  exact this
 rw [Sp.rcheck_iff]
 refine ⟨by rw [hst]; omega, ?_, ?_, ?_, by rw [hst]; omega, ?_, ?_, ?_⟩
 ·rw [hf1, List.length_map]
  have := List.length_filter_le (Sp.bhas (Sp.reach a)) a.final
  omega
 ·have : (Sp.rtrim a).edges = a.edges.foldl (Sp.tre (Sp.alive a) (Sp.reach a) (Sp.toA a)) [] := by rw [Sp.rtrim_alive hs]
  rw [this]
  have := Sp.tre_len (Sp.alive a) (Sp.reach a) (Sp.toA a) a.edges []
  simp only [List.length_nil] at this
  omega
 ·intro x hx
  obtain ⟨e, he, rfl⟩ := (Sp.y_edges ha hs x).1 hx
  exact c4 e he.1
 ·rw [hss]; exact hstate _ (Sp.kept_start ha hs)
 ·rw [Sp.rfin_iff]
  obtain ⟨p1, p2, p3⟩ := (Sp.rfin_iff a a.final none).1 c7
  refine ⟨fun f hf => ?_, ?_, fun q hq => by cases hq⟩
  ·rw [hf1, List.mem_map] at hf
   obtain ⟨g, hg, rfl⟩ := hf
   exact hstate g (hf2 g hg).2
  ·rw [hf1, List.pairwise_map]
   refine List.Pairwise.imp_of_mem (R := fun x y => x < y) (fun {x y} hx hy hxy => Sp.num_lt (hf2 x hx).2 hxy) (p2.filter _)
 ·intro x hx
  obtain ⟨e, he, rfl⟩ := (Sp.y_edges ha hs x).1 hx
  have hr := c8 e he.1
  simp only [Sp.rright, Bool.and_eq_true] at hr ⊢
  obtain ⟨⟨⟨⟨⟨⟨⟨h1, h2⟩, h3⟩, h4⟩, h5⟩, h6⟩, h7⟩, h8⟩ := hr
  refine ⟨⟨⟨⟨⟨⟨⟨hstate _ he.2.2.1, hstate _ he.2.2.2.1⟩, h3⟩, h4⟩, h5⟩, h6⟩, h7⟩, ?_⟩
  by_cases k5 : e.kind = 5
  ·show (if e.kind = 5 then Sp.rstate (Sp.rtrim a) (if e.kind = 5 then Sp.num a e.inner else 0) else decide ((if e.kind = 5 then Sp.num a e.inner else 0) = 0)) = true
   rw [if_pos k5, if_pos k5]
   exact hstate _ (he.2.2.2.2 k5)
  ·show (if e.kind = 5 then Sp.rstate (Sp.rtrim a) (if e.kind = 5 then Sp.num a e.inner else 0) else decide ((if e.kind = 5 then Sp.num a e.inner else 0) = 0)) = true
   rw [if_neg k5, if_neg k5]
   rfl
theorem Sp.bstep_iff {f : Edg → Bool} {s : Bts} : ∀ {l : List Edg} {o : Bts}, (∀ e ∈ l, 0 ≤ e.src ∧ e.src < 400) → Sp.okW o → Sp.okW (Sp.bstep f s l o) ∧ ∀ n : Int, 0 ≤ n → n < 448 → (Sp.bhas (Sp.bstep f s l o) n = true ↔ (Sp.bhas o n = true ∨ ∃ e ∈ l, e.src = n ∧ Sp.bhas s e.dst = true ∧ f e = true))
 | [], o, _, ho => ⟨ho, fun n _ _ => by simp [Sp.bstep]⟩
 | e :: l, o, h, ho => by
   have he := h e (by simp)
   rw [Sp.bstep]
   have key : Sp.okW (if (Sp.bhas s e.dst && f e) = true then Sp.bput o e.src else o) ∧ ∀ n : Int, 0 ≤ n → n < 448 → (Sp.bhas (if (Sp.bhas s e.dst && f e) = true then Sp.bput o e.src else o) n = true ↔ (Sp.bhas o n = true ∨ (e.src = n ∧ Sp.bhas s e.dst = true ∧ f e = true))) := by
    by_cases hc : (Sp.bhas s e.dst && f e) = true
    ·rw [if_pos hc]
     refine ⟨(Sp.put_inc ho he.1 he.2).1, fun n h0 h4 => ?_⟩
     rw [Sp.put_iff ho he.1 he.2 h0 h4]
     rw [Bool.and_eq_true] at hc
     simp only [hc, and_true, eq_comm]
    ·rw [if_neg hc]
     refine ⟨ho, fun n h0 h4 => ?_⟩
     rw [Bool.and_eq_true] at hc
     simp only [hc, and_false, or_false]
   obtain ⟨k1, k2⟩ := Sp.bstep_iff (l := l) (f := f) (s := s) (fun e he => h e (by simp [he])) key.1
   refine ⟨k1, fun n h0 h4 => ?_⟩
   rw [k2 n h0 h4, key.2 n h0 h4]
   simp only [List.mem_cons, or_and_right, exists_or, exists_eq_left, or_assoc]
theorem Sp.binto_iff {ed : List Edg} {f : Edg → Bool} (s : Bts) (h : ∀ e ∈ ed, 0 ≤ e.src ∧ e.src < 400) : ∀ n : Int, 0 ≤ n → n < 448 → (Sp.bhas (Sp.binto ed s f) n = true ↔ ∃ e ∈ ed, e.src = n ∧ Sp.bhas s e.dst = true ∧ f e = true) := by
 intro n h0 h4
 have := (Sp.bstep_iff (f := f) (s := s) h Sp.okW_bz).2 n h0 h4
 rw [Sp.bhas_bz h0 h4] at this
 simp only [Bool.false_eq_true, false_or] at this
 exact this
def Sp.tkT (a : Aut) : Tm → Edg → Bool
 | .mk k x ks => if k = 4 then Sp.inn1 (Sp.baccL a ks) else fun e => Sp.rreads e (.mk k x ks)
theorem Sp.bacc_cons {a : Aut} (ha : Sp.okN a) (t : Tm) (l : List Tm) : ∀ n : Int, 0 ≤ n → n < 448 → (Sp.bhas (Sp.baccL a (t :: l)) n = true ↔ ∃ e ∈ a.edges, e.src = n ∧ Sp.bhas (Sp.baccL a l) e.dst = true ∧ Sp.tkT a t e = true) := by
 intro n h0 h4
 have hE : ∀ e ∈ a.edges, 0 ≤ e.src ∧ e.src < 400 := fun e he => (Sp.okN_E ha e he).1
 cases t with
 | mk k x ks =>
   rw [Sp.baccL, Sp.baccT, Sp.tkT]
   by_cases hk : k = 4
   ·rw [if_pos hk, if_pos hk]; exact Sp.binto_iff _ hE n h0 h4
   ·rw [if_neg hk, if_neg hk]; exact Sp.binto_iff _ hE n h0 h4
theorem Sp.bacc_nil {a : Aut} (ha : Sp.okN a) : ∀ n : Int, 0 ≤ n → n < 448 → (Sp.bhas (Sp.baccL a []) n = true ↔ n ∈ a.final) := by
 intro n h0 h4
 rw [Sp.baccL, Sp.fin_iff (fun f hf => by have := ha.2.2.1 f hf; have := ha.1; omega) Sp.okW_bz n h0 h4, Sp.bhas_bz h0 h4]
 simp
theorem Sp.rreads_not5 {e : Edg} {t : Tm} (h : Sp.rreads e t = true) : ¬ e.kind = 5 := by
 intro h5
 rw [Sp.rreads, if_neg (by omega)] at h
 simp [h5] at h
mutual
theorem Sp.acc_T {a : Aut} (h : Sp.rcheck a = 0) : ∀ (t : Tm) (e : Edg), e ∈ a.edges → Sp.bhas (Sp.alive a) e.dst = true → Sp.tkT a t e = true → Sp.good e (Sp.alive a) = true
 | .mk k x ks, e, he, hd, ht => by
   have ha := Sp.okN_of h
   have hx := ((Sp.rcheck_iff a).1 h).2.2.2.1 e he
   rw [Sp.good_iff]
   refine ⟨hd, fun _ => by omega, fun h5 => ?_⟩
   rw [Sp.tkT] at ht
   by_cases hk : k = 4
   ·rw [if_pos hk] at ht
    simp only [Sp.inn1, Bool.and_eq_true] at ht
    have hi := (Sp.okN_E ha e he).2.2.2 h5
    exact Sp.acc_L h ks e.inner hi.1 (by omega) ht.2
   ·rw [if_neg hk] at ht
    exact absurd h5 (Sp.rreads_not5 ht)
theorem Sp.acc_L {a : Aut} (h : Sp.rcheck a = 0) : ∀ (l : List Tm) (n : Int), 0 ≤ n → n < 448 → Sp.bhas (Sp.baccL a l) n = true → Sp.bhas (Sp.alive a) n = true
 | [], n, h0, h4, hn => (Sp.alive_ok (Sp.okN_of h)).2.1 n ((Sp.bacc_nil (Sp.okN_of h) n h0 h4).1 hn)
 | t :: l, n, h0, h4, hn => by
   have ha := Sp.okN_of h
   obtain ⟨e, he, h1, h2, h3⟩ := (Sp.bacc_cons ha t l n h0 h4).1 hn
   have hd := (Sp.okN_E ha e he).2.1
   have := Sp.acc_L h l e.dst hd.1 (by omega) h2
   rw [← h1]
   exact (Sp.alive_ok ha).2.2 e he (Sp.acc_T h t e he this h3)
end
mutual
theorem Sp.corr_T {a : Aut} (h : Sp.rcheck a = 0) (hs : Sp.bhas (Sp.alive a) a.start = true) : ∀ (t : Tm) (e : Edg), Sp.keptE a e → (Sp.tkT (Sp.rtrim a) t (Sp.img a e) = true ↔ Sp.tkT a t e = true)
 | .mk k x ks, e, he => by
   rw [Sp.tkT, Sp.tkT]
   by_cases hk : k = 4
   ·rw [if_pos hk, if_pos hk]
    simp only [Sp.inn1, Bool.and_eq_true, decide_eq_true_eq]
    constructor
    ·rintro ⟨h5, h6⟩
     have h5' : e.kind = 5 := h5
     refine ⟨h5', (Sp.corr_L h hs ks e.inner (he.2.2.2.2 h5')).1 ?_⟩
     have e1 : (Sp.img a e).inner = Sp.num a e.inner := by show (if e.kind = 5 then Sp.num a e.inner else 0) = _; rw [if_pos h5']
     rw [← e1]; exact h6
    ·rintro ⟨h5, h6⟩
     refine ⟨h5, ?_⟩
     have e1 : (Sp.img a e).inner = Sp.num a e.inner := by show (if e.kind = 5 then Sp.num a e.inner else 0) = _; rw [if_pos h5]
     rw [e1]
     exact (Sp.corr_L h hs ks e.inner (he.2.2.2.2 h5)).2 h6
   ·rw [if_neg hk, if_neg hk]
    exact Iff.rfl
theorem Sp.corr_L {a : Aut} (h : Sp.rcheck a = 0) (hs : Sp.bhas (Sp.alive a) a.start = true) : ∀ (l : List Tm) (q : Int), Sp.kept a q → (Sp.bhas (Sp.baccL (Sp.rtrim a) l) (Sp.num a q) = true ↔ Sp.bhas (Sp.baccL a l) q = true)
 | [], q, hq => by
   have ha := Sp.okN_of h
   have hy := Sp.okN_of (Sp.y_check h hs)
   have hb := Sp.num_bd hq
   have hr := (Sp.rank_bd (Sp.pA a) a.states.toNat).2
   obtain ⟨hf1, hf2⟩ := Sp.y_final ha hs
   have h1 := hq.1
   have h2 := ha.1
   rw [Sp.bacc_nil hy _ hb.1 (by omega), Sp.bacc_nil ha _ h1.1 (by omega), hf1, List.mem_map]
   constructor
   ·rintro ⟨f, hf, e⟩
    rw [← Sp.num_inj (hf2 f hf).2 hq e]
    exact (hf2 f hf).1
   ·intro hf
    exact ⟨q, List.mem_filter.2 ⟨hf, hq.2.1⟩, rfl⟩
 | t :: l, q, hq => by
   have ha := Sp.okN_of h
   have hy := Sp.okN_of (Sp.y_check h hs)
   have hb := Sp.num_bd hq
   have hr := (Sp.rank_bd (Sp.pA a) a.states.toNat).2
   have h1 := hq.1
   have h2 := ha.1
   rw [Sp.bacc_cons hy t l _ hb.1 (by omega), Sp.bacc_cons ha t l _ h1.1 (by omega)]
   constructor
   ·rintro ⟨x, hx, e1, e2, e3⟩
    obtain ⟨e, he, rfl⟩ := (Sp.y_edges ha hs x).1 hx
    exact ⟨e, he.1, Sp.num_inj he.2.2.1 hq e1, (Sp.corr_L h hs l e.dst he.2.2.2.1).1 e2, (Sp.corr_T h hs t e he).1 e3⟩
   ·rintro ⟨e, he, e1, e2, e3⟩
    have hd := (Sp.okN_E ha e he).2.1
    have hg := Sp.acc_T h t e he (Sp.acc_L h l e.dst hd.1 (by omega) e2) e3
    have hk := Sp.keptE_of ha hs he hg (by rw [e1]; exact hq.2.1)
    exact ⟨Sp.img a e, (Sp.y_edges ha hs _).2 ⟨e, hk, rfl⟩, by show Sp.num a e.src = _; rw [e1], (Sp.corr_L h hs l e.dst hk.2.2.2.1).2 e2, (Sp.corr_T h hs t e hk).2 e3⟩
end
theorem Sp.y_alive {a : Aut} (h : Sp.rcheck a = 0) (hs : Sp.bhas (Sp.alive a) a.start = true) : ∀ q, Sp.kept a q → Sp.bhas (Sp.alive (Sp.rtrim a)) (Sp.num a q) = true := by
 have ha := Sp.okN_of h
 have hy := Sp.okN_of (Sp.y_check h hs)
 obtain ⟨y1, y2, y3⟩ := Sp.alive_ok hy
 obtain ⟨hf1, hf2⟩ := Sp.y_final ha hs
 have key := Sp.alive_ind ha (P := fun q => ((0 ≤ q ∧ q < a.states) ∧ Sp.bhas (Sp.alive a) q = true) ∧ (Sp.bhas (Sp.reach a) q = true → Sp.bhas (Sp.alive (Sp.rtrim a)) (Sp.num a q) = true))
  (fun f hf => ⟨⟨ha.2.2.1 f hf, (Sp.alive_ok ha).2.1 f hf⟩, fun hr => y2 _ (by rw [hf1]; exact List.mem_map.2 ⟨f, List.mem_filter.2 ⟨hf, hr⟩, rfl⟩)⟩)
  (fun e he h1 h2 h3 => by
   obtain ⟨q1, q2, q3, q4, q5⟩ := ha.2.2.2.2.2 e he
   have hg : Sp.good e (Sp.alive a) = true := (Sp.good_iff _ _).2 ⟨h1.1.2, h2, fun h5 => (h3 h5).1.2⟩
   refine ⟨⟨q1, (Sp.alive_ok ha).2.2 e he hg⟩, fun hr => ?_⟩
   have hk := Sp.keptE_of ha hs he hg hr
   refine y3 (Sp.img a e) ((Sp.y_edges ha hs _).2 ⟨e, hk, rfl⟩) ((Sp.good_iff _ _).2 ⟨h1.2 hk.2.2.2.1.2.1, h2, fun h5 => ?_⟩)
   have h5' : e.kind = 5 := h5
   show Sp.bhas _ (if e.kind = 5 then Sp.num a e.inner else 0) = true
   rw [if_pos h5']
   exact (h3 h5').2 (hk.2.2.2.2 h5').2.1)
 intro q hq
 have := ha.1
 exact (key q hq.1.1 (by have := hq.1; omega) hq.2.2).2 hq.2.1
theorem Sp.y_reach {a : Aut} (h : Sp.rcheck a = 0) (hs : Sp.bhas (Sp.alive a) a.start = true) : ∀ q, Sp.kept a q → Sp.bhas (Sp.reach (Sp.rtrim a)) (Sp.num a q) = true := by
 have ha := Sp.okN_of h
 have hy := Sp.okN_of (Sp.y_check h hs)
 have hal := Sp.y_alive h hs
 obtain ⟨y1, y2, y3⟩ := Sp.reach_ok hy
 have hss : (Sp.rtrim a).start = Sp.num a a.start := by rw [Sp.rtrim_alive hs]; exact Sp.num_at (Sp.kept_start ha hs)
 have key := Sp.reach_ind ha (P := fun q => Sp.kept a q ∧ Sp.bhas (Sp.reach (Sp.rtrim a)) (Sp.num a q) = true) ⟨Sp.kept_start ha hs, by rw [← hss]; exact y2⟩ (fun e he h1 hg => by
  have hk := Sp.keptE_of ha hs he hg h1.1.2.1
  have hgi : Sp.good (Sp.img a e) (Sp.alive (Sp.rtrim a)) = true := by
   refine (Sp.good_iff _ _).2 ⟨hal _ hk.2.2.2.1, ((Sp.good_iff _ _).1 hg).2.1, fun h5 => ?_⟩
   have h5' : e.kind = 5 := h5
   show Sp.bhas _ (if e.kind = 5 then Sp.num a e.inner else 0) = true
   rw [if_pos h5']
   exact hal _ (hk.2.2.2.2 h5')
  have h2 := y3 (Sp.img a e) ((Sp.y_edges ha hs _).2 ⟨e, hk, rfl⟩) h1.2 hgi
  refine ⟨⟨hk.2.2.2.1, h2.1⟩, fun h5 => ⟨hk.2.2.2.2 h5, ?_⟩⟩
  have h6 := h2.2 h5
  have e1 : (Sp.img a e).inner = Sp.num a e.inner := by show (if e.kind = 5 then Sp.num a e.inner else 0) = _; rw [if_pos h5]
  rw [e1] at h6; exact h6)
 intro q hq
 have := ha.1
 exact (key q hq.1.1 (by have := hq.1; omega) hq.2.1).2
theorem Sp.trim_trim {a : Aut} (h : Sp.rcheck a = 0) : (Sp.rtrim (Sp.rtrim a)).states = (Sp.rtrim a).states ∧ (Sp.rtrim (Sp.rtrim a)).start = (Sp.rtrim a).start ∧ (Sp.rtrim (Sp.rtrim a)).edges.length = (Sp.rtrim a).edges.length ∧ (Sp.rtrim (Sp.rtrim a)).final.length = (Sp.rtrim a).final.length := by
 by_cases hs : Sp.bhas (Sp.alive a) a.start = true
 ·have ha := Sp.okN_of h
  have hyc := Sp.y_check h hs
  have hy := Sp.okN_of hyc
  have hst : (Sp.rtrim a).states = Sp.rank (Sp.pA a) a.states.toNat := by rw [Sp.rtrim_alive hs]
  have hall : ∀ m : Int, 0 ≤ m → m < (Sp.rtrim a).states → Sp.kept (Sp.rtrim a) m := by
   intro m m0 m1
   obtain ⟨q, hq, rfl⟩ := Sp.num_surj ha hs m0 (by rw [← hst]; exact m1)
   exact ⟨⟨m0, m1⟩, Sp.y_reach h hs q hq, Sp.y_alive h hs q hq⟩
  have hys : Sp.bhas (Sp.alive (Sp.rtrim a)) (Sp.rtrim a).start = true := (hall _ hy.2.1.1 hy.2.1.2).2.2
  have hnum : ∀ m : Int, 0 ≤ m → m ≤ (Sp.rtrim a).states → Sp.num (Sp.rtrim a) m = m := by
   intro m m0 m1
   rw [Sp.num, Sp.rank_all _ fun k hk => Sp.kept_p (hall k (by omega) (by omega))]
   omega
  have hN := hy.1
  generalize hy' : Sp.rtrim a = y at *
  obtain ⟨hf1, hf2⟩ := Sp.y_final hy hys
  have hedge : ∀ e ∈ y.edges, Sp.good e (Sp.alive y) = true ∧ Sp.keptE y e := by
   intro e he
   obtain ⟨q1, q2, q3, q4, q5⟩ := hy.2.2.2.2.2 e he
   have hx := ((Sp.rcheck_iff y).1 hyc).2.2.2.1 e he
   have hg : Sp.good e (Sp.alive y) = true := (Sp.good_iff _ _).2 ⟨(hall _ q2.1 q2.2).2.2, fun _ => by omega, fun h5 => (hall _ (q4 h5).1 (q4 h5).2).2.2⟩
   exact ⟨hg, he, hg, hall _ q1.1 q1.2, hall _ q2.1 q2.2, fun h5 => hall _ (q4 h5).1 (q4 h5).2⟩
  have hnd : y.edges.Nodup := by
   rw [← hy', Sp.rtrim_alive hs]
   exact Sp.tre_nodup _ _ _ _ _ List.nodup_nil
  have himg : ∀ e ∈ y.edges, Sp.img y e = e := by
   intro e he
   obtain ⟨q1, q2, q3, q4, q5⟩ := hy.2.2.2.2.2 e he
   have hr := ((Sp.rcheck_iff y).1 hyc).2.2.2.2.2.2.2 e he
   unfold Sp.img
   rw [hnum _ q1.1 (by omega), hnum _ q2.1 (by omega)]
   by_cases h5 : e.kind = 5
   ·rw [if_pos h5, hnum _ (q4 h5).1 (by have := q4 h5; omega)]
   ·rw [if_neg h5]
    simp only [Sp.rright, Bool.and_eq_true] at hr
    have h6 := hr.2
    rw [if_neg h5] at h6
    have h7 : e.inner = 0 := of_decide_eq_true h6
    rw [← h7]
  have hes : (Sp.rtrim y).edges = y.edges := by
   rw [Sp.rtrim_alive hys]
   show y.edges.foldl (Sp.tre (Sp.alive y) (Sp.reach y) (Sp.toA y)) [] = _
   rw [Sp.tre_id _ _ _ y.edges [] (fun e he => ⟨by rw [(hedge e he).1, (hedge e he).2.2.2.1.2.1]; rfl, by rw [Sp.image_at (hedge e he).2, himg e he]⟩) (by simpa using hnd)]
   rfl
  refine ⟨?_, ?_, by rw [hes], ?_⟩
  ·rw [Sp.rtrim_alive hys]
   show Sp.rank (Sp.pA y) y.states.toNat = y.states
   have := hnum y.states (by omega) (Int.le_refl _)
   exact this
  ·rw [Sp.rtrim_alive hys]
   show nth 0 (Sp.toA y) y.start = y.start
   rw [Sp.num_at (Sp.kept_start hy hys), hnum _ hy.2.1.1 (by have := hy.2.1; omega)]
  ·rw [hf1, List.length_map, List.filter_eq_self.2 fun f hf => (hall f (hy.2.2.1 f hf).1 (hy.2.2.1 f hf).2).2.1]
 ·have e1 : Sp.rtrim a = ⟨1, 0, [], []⟩ := by rw [Sp.rtrim, if_neg hs]
  rw [e1]
  exact ⟨rfl, rfl, rfl, rfl⟩
theorem Sp.trim_check {a : Aut} (h : Sp.rcheck a = 0) : Sp.rcheck (Sp.rtrim a) = 0 := by
 by_cases hs : Sp.bhas (Sp.alive a) a.start = true
 ·exact Sp.y_check h hs
 ·rw [Sp.rtrim, if_neg hs]; rfl
theorem Sp.trim_has {a : Aut} (h : Sp.rcheck a = 0) (v : List Tm) : Sp.bhas (Sp.baccL (Sp.rtrim a) v) (Sp.rtrim a).start = Sp.bhas (Sp.baccL a v) a.start := by
 have ha := Sp.okN_of h
 have h1 := ha.1
 have h2 := ha.2.1
 by_cases hs : Sp.bhas (Sp.alive a) a.start = true
 ·have hss : (Sp.rtrim a).start = Sp.num a a.start := by rw [Sp.rtrim_alive hs]; exact Sp.num_at (Sp.kept_start ha hs)
  rw [hss, Bool.eq_iff_iff]
  exact Sp.corr_L h hs v a.start (Sp.kept_start ha hs)
 ·have e1 : Sp.bhas (Sp.baccL a v) a.start = false := by
   cases hx : Sp.bhas (Sp.baccL a v) a.start with
   | false => rfl
   | true => exact absurd (Sp.acc_L h v a.start h2.1 (by omega) hx) hs
  rw [e1]
  have e2 : Sp.rtrim a = ⟨1, 0, [], []⟩ := by rw [Sp.rtrim, if_neg hs]
  rw [e2]
  cases hx : Sp.bhas (Sp.baccL ⟨1, 0, [], []⟩ v) 0 with
  | false => rfl
  | true =>
    have h3 := Sp.acc_L (a := ⟨1, 0, [], []⟩) rfl v 0 (by omega) (by omega) hx
    have h4 : Sp.bhas (Sp.alive ⟨1, 0, [], []⟩) 0 = false := rfl
    rw [h4] at h3; cases h3
theorem Sp.trim_small {a : Aut} (h : Sp.rcheck a = 0) : (Sp.rtrim a).states ≤ a.states ∧ (Sp.rtrim a).edges.length ≤ a.edges.length := by
 have ha := Sp.okN_of h
 have h1 := ha.1
 by_cases hs : Sp.bhas (Sp.alive a) a.start = true
 ·have hr := (Sp.rank_bd (Sp.pA a) a.states.toNat).2
  have := Sp.tre_len (Sp.alive a) (Sp.reach a) (Sp.toA a) a.edges []
  rw [Sp.rtrim_alive hs]
  refine ⟨by show Sp.rank _ _ ≤ _; omega, ?_⟩
  simpa using this
 ·rw [Sp.rtrim, if_neg hs]
  exact ⟨h1.1, by simp⟩
theorem Sp.trim_okA {a : Aut} (h : Sp.rcheck a = 0) (hA : Sp.okA a) : Sp.okA (Sp.rtrim a) := by
 by_cases hs : Sp.bhas (Sp.alive a) a.start = true
 ·intro x hx
  obtain ⟨e, he, rfl⟩ := (Sp.y_edges (Sp.okN_of h) hs x).1 hx
  exact hA e he.1
 ·rw [Sp.rtrim, if_neg hs]
  intro x hx
  cases hx
theorem l23_has.main (a : Aut) (v : List Tm) (ha : Sp.okA a ∧ Sp.okL v) : l23_has.t a v := by
 refine ⟨ha, fun b i h => ?_⟩
 rw [show Aut.mk a.states a.start a.final a.edges = a from rfl] at h
 by_cases h1 : Sp.rcheck a = 0
 ·rw [if_pos h1] at h ⊢
  by_cases h2 : Sp.wrong v 4 = 0
  ·rw [if_pos h2] at h ⊢
   obtain ⟨rfl, rfl⟩ := Prod.mk.inj h
   simp
  ·rw [if_neg h2] at h ⊢
   obtain ⟨rfl, rfl⟩ := Prod.mk.inj h
   rfl
 ·rw [if_neg h1] at h ⊢
  obtain ⟨rfl, rfl⟩ := Prod.mk.inj h
  rfl
theorem l23_has.ok (W : World) : CtrOK Go.Proofs.Tryz.prog W 15 l23_has.C := by
 refine funOK (Γ := lookC [(8, regular_Has.C)]) (lookC_ok (fun p hp => by
  simp only [List.mem_cons, List.not_mem_nil, or_false] at hp
  subst hp; exact regular_Has.ok W)) (Λ := fun a_ => match a_ with | (a, v) => (fun _ => none)) (Λr := fun a_ => match a_ with | (a, v) => (fun _ => none)) ?_
 intro a ha
 obtain ⟨a, v⟩ := a
 refine Eq.mpr ?_ (@l23_has.main a v ha)
 kernel_rfl
theorem regular_Trim.main (a : Aut) (ha : Sp.okA a) : regular_Trim.t a := by
 refine ⟨ha, fun i h => ?_⟩
 rw [show Aut.mk a.states a.start a.final a.edges = a from rfl] at h ⊢
 rw [h]
 refine ifN (fun h1 => ?_) fun h1 => ⟨?_, fun x hx => ?_⟩
 ·rw [if_neg h1]
 ·exact Sp.okN_of (h.trans h1)
 ·rw [if_pos h1, hx]
theorem regular_Trim.ok (W : World) : CtrOK Go.Proofs.Tryz.prog W 14 regular_Trim.C := by
 refine funOK (Γ := lookC [(11, regular_Check.C), (32, regular_Automaton_trim.C)]) (lookC_ok (fun p hp => by
  simp only [List.mem_cons, List.not_mem_nil, or_false] at hp
  rcases hp with rfl | rfl
  ·exact regular_Check.ok W
  ·exact regular_Automaton_trim.ok W)) (Λ := fun a_ => match a_ with | a => (fun _ => none)) (Λr := fun a_ => match a_ with | a => (fun _ => none)) ?_
 intro a ha
 refine Eq.mpr ?_ (@regular_Trim.main a ha)
 kernel_rfl
theorem l23_RegularTrims.main (a : Aut) (v : List Tm) (ha : Sp.okA a ∧ Sp.okL v ∧ a.edges.length ≤ 4000000) : l23_RegularTrims.t a v := by
 obtain ⟨h1, h2, h3⟩ := ha
 refine ⟨h3, fun x hx => ⟨by omega, fun b hb => ⟨fun _ => by omega, ?_⟩⟩⟩
 have hx' : a = x := hx
 subst hx'
 rw [show Aut.mk a.states a.start a.final a.edges = a from rfl]
 refine ⟨fun _ => h1, fun _ => h2, ifB_of (fun _ => ⟨rfl, fun b hb => hb⟩) fun hc => ⟨h1, fun y i hy => ?_⟩⟩
 simp only [Bool.and_eq_true, Bool.or_eq_true, Bool.not_eq_true', Bool.or_eq_false_iff, Bool.and_eq_false_iff, Bool.not_eq_false', decide_eq_true_eq, decide_eq_false_iff_not, mk_empty] at hc
 have hr : Sp.rcheck a = 0 := by simpa using hc.1.2
 have hw : Sp.wrong v 4 = 0 := by simpa using hc.2
 rw [if_pos hr] at hy ⊢
 obtain ⟨rfl, rfl⟩ := Prod.mk.inj hy
 rw [show Aut.mk (Sp.rtrim a).states (Sp.rtrim a).start (Sp.rtrim a).final (Sp.rtrim a).edges = Sp.rtrim a from rfl]
 have hA := Sp.trim_okA hr h1
 have hyr := Sp.trim_check hr
 refine ⟨hA, fun z i hz => ?_⟩
 rw [if_pos hyr] at hz ⊢
 obtain ⟨rfl, rfl⟩ := Prod.mk.inj hz
 obtain ⟨s1, s2⟩ := Sp.trim_small hr
 obtain ⟨t1, t2, t3, t4⟩ := Sp.trim_trim hr
 refine ⟨fun _ => ⟨h1, h2⟩, fun _ => ⟨hA, h2⟩, ifB_of (fun hb => ?_) fun _ => ⟨fun _ => rfl, ?_⟩⟩
 ·rw [if_pos hw, if_pos hw, Sp.trim_has hr v] at hb
  simp at hb
  omega
 ·rw [t1, t2, t3, t4]
  simp
theorem l23_RegularTrims.ok (W : World) : CtrOK Go.Proofs.Tryz.prog W 4 l23_RegularTrims.C := by
 refine funOK (Γ := lookC [(5, l23_Small.C), (6, l09_Small.C), (7, l23_awake.C), (9, l23_given.C), (11, regular_Check.C), (13, term_Value.C), (14, regular_Trim.C), (15, l23_has.C)]) (lookC_ok (fun p hp => by
  simp only [List.mem_cons, List.not_mem_nil, or_false] at hp
  rcases hp with rfl | rfl | rfl | rfl | rfl | rfl | rfl | rfl
  ·exact l23_Small.ok W
  ·exact l09_Small.ok W
  ·exact l23_awake.ok W
  ·exact l23_given.ok W
  ·exact regular_Check.ok W
  ·exact term_Value.ok W
  ·exact regular_Trim.ok W
  ·exact l23_has.ok W)) (Λ := fun a_ => match a_ with | (a, v) => (fun _ => none)) (Λr := fun a_ => match a_ with | (a, v) => (fun _ => none)) ?_
 intro a ha
 obtain ⟨a, v⟩ := a
 refine Eq.mpr ?_ (@l23_RegularTrims.main a v ha)
 kernel_rfl
end Go.AL
