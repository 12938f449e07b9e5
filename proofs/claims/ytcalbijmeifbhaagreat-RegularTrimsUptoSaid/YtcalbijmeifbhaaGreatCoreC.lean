/- Regions in stages; frames run to their end; calls; arguments. -/
import Derived.Test.YtcalbijmeifbhaaGreatCoreB
import Derived.RangeFuncNested
import Derived.ChangeArms
import Derived.ChangeOld
import Derived.DataReads
set_option linter.unusedVariables false
set_option linter.unusedSimpArgs false
namespace Go.AL
open Go.RowKit
set_option linter.unusedVariables false
set_option linter.unusedSectionVars false
set_option linter.unusedSimpArgs false
def dummyO : Oper := { dst := none, op := .assign (.func 0), type := 0, pos := "", after := #[], guard := none }
def dummyA : AI := ⟨none, none, .mv (.c (.fn (.func 0) [] []))⟩
theorem compAI_dummy (P : Program) (n : Nat) (ops : Array Oper) : compAI P n ops dummyO = some dummyA := rfl
def stageO (ops : List Oper) (c e : Nat) : List Oper := List.replicate c dummyO ++ (ops.take e).drop c
def barOk (ops : List Oper) (ms : List Nat) (e : Nat) : Bool :=
 (List.range ops.length).all fun i => decide (i < e) || (List.range e).all fun j => (ms.getD i 0).testBit j
def masksOk (ops : List Oper) (ms : List Nat) : Bool :=
 (List.range ops.length).all fun i => match ops[i]? with
  | none => true
  | some o => (ms.getD i 0 == maskOf ms (predsOf o)) && (predsOf o).all (· < i)
def guardsIn (ops : List Oper) (c e : Nat) : Bool :=
 ((ops.take e).drop c).all fun o => match o.guard with
  | none => true
  | some (j, _) => decide (c ≤ j) && decide (j < e)
theorem masksOk_spec {ops : List Oper} {ms : List Nat} (h : masksOk ops ms = true) : ∀ (i : Nat) (o : Oper), ops[i]? = some o → ms.getD i 0 = maskOf ms (predsOf o) ∧ ∀ p ∈ predsOf o, p < i := by
 intro i o ho
 unfold masksOk at h
 rw [List.all_eq_true] at h
 have lt : i < ops.length := by
  rcases Nat.lt_or_ge i ops.length with h1 | h1
  ·exact h1
  ·rw [List.getElem?_eq_none h1] at ho; cases ho
 have := h i (List.mem_range.2 lt)
 rw [ho] at this
 simp only [Bool.and_eq_true] at this
 refine ⟨by simpa using this.1, fun p hp => ?_⟩
 have h2 := this.2
 rw [List.all_eq_true] at h2
 simpa using h2 p hp
theorem barOk_spec {ops : List Oper} {ms : List Nat} {e : Nat} (h : barOk ops ms e = true) {i : Nat} (hi : i < ops.length) (he : e ≤ i) {j : Nat} (hj : j < e) : (ms.getD i 0).testBit j = true := by
 unfold barOk at h
 rw [List.all_eq_true] at h
 have := h i (List.mem_range.2 hi)
 simp only [Bool.or_eq_true, decide_eq_true_eq, List.all_eq_true, List.mem_range] at this
 rcases this with h1 | h1
 ·omega
 ·exact h1 j hj
theorem clo2 {ops : List Oper} {ms : List Nat} (hd : masksOk ops ms = true) {L : Array Bool} (hL : DC ops L) (hlen : ∀ i, L.getD i false = true → i < ops.length) : ∀ (i : Nat) (o : Oper), ops[i]? = some o → (∀ p ∈ predsOf o, L.getD p false = true) →
  ∀ j, (ms.getD i 0).testBit j = true → L.getD j false = true := by
 intro i
 induction i using Nat.strongRecOn with
 | _ i ih =>
   intro o ho hp j hj
   rw [(masksOk_spec hd i o ho).1] at hj
   obtain ⟨p, hpm, h | h⟩ := testBit_maskOf hj
   ·subst h; exact hp _ hpm
   ·have hlt := (masksOk_spec hd i o ho).2 p hpm
    have hpl := hp p hpm
    obtain ⟨po, hpo⟩ : ∃ x, ops[p]? = some x := ⟨_, List.getElem?_eq_getElem (hlen p hpl)⟩
    exact ih p hlt _ hpo (fun q hq => hL p _ hpo hpl q hq) j h
theorem progress2 {ops : Array Oper} {ms : List Nat} (hd : masksOk ops.toList ms = true) {L : Array Bool} (hs : L.size = ops.size) {e : Nat} (he : e ≤ ops.size) (hr : ∀ i, i ∈ Region.ready .any ops L → e ≤ i) : ∀ i, i < e → L.getD i false = true := by
 intro i
 induction i using Nat.strongRecOn with
 | _ i ih =>
   intro hi
   cases hL : L.getD i false with
   | true => rfl
   | false =>
     obtain ⟨o, ho⟩ : ∃ o, ops.toList[i]? = some o := ⟨_, List.getElem?_eq_getElem (by simp; omega)⟩
     have : i ∈ Region.ready .any ops L := (ready_iff hs).2 ⟨hL, o, ho, fun p hp => by
      have hlt := (masksOk_spec hd i o ho).2 p hp
      exact ih p hlt (by omega)⟩
     have := hr i this
     omega
def exQ (Q : Exit → Act → World → Prop) (R : Act → World → Prop) : Exit → Act → World → Prop
 | .normal, a, w => R a w
 | x, a, w => Q x a w
theorem exQ_upon {Fn : Fence} {k : Nat} {P : Program} {Q : Exit → Act → World → Prop} {R : Act → World → Prop} {o : Oper} {a : Act} {w : World} {K K' : Act → World → Prop} (hk : ∀ a w, K a w → K' a w) (h : o.wpIn Fn k P a w K (exQ Q R)) : o.wpIn Fn k P a w K' Q := by
 unfold Oper.wpIn at *
 refine ⟨h.1, ?_⟩
 have hh := h.2
 generalize (o.semAt Fn.round a.eval).run P w = r at *
 have lo : LetsOut (exQ Q R) → LetsOut Q := fun ⟨a, w, h⟩ => ⟨a, w, h⟩
 cases r with
 | ok x w' =>
   cases x <;> simp only [Oper.uponIn] at hh ⊢ <;>
    first
     | exact hk _ _ hh
     | exact ⟨hh.1, CallsIn.mono hh.2 (fun e w'' he => by cases e <;> first | exact hk _ _ he | exact he | exact lo he)⟩
     | exact ⟨hh.1, RowsIn.mono hh.2 (fun e w'' he => hk _ _ he)⟩
     | exact ⟨hh.1, RoundIn.mono hh.2 (fun e w'' he => by cases e <;> first | exact hk _ _ he | exact he | exact lo he)⟩
     | exact hh
 | halt x w' => cases x <;> simp only [Oper.uponIn] at hh ⊢ <;> first | exact hh | skip
section
variable {P : Program} {w₀ : World} {n : Nat} {ops : Array Oper} {ms : List Nat}
theorem stageO_len {ops : List Oper} {c e : Nat} (hc : c ≤ e) (he : e ≤ ops.length) : (stageO ops c e).length = e := by
 simp [stageO]; omega
theorem stageO_lo {ops : List Oper} {c e i : Nat} (hi : i < c) : (stageO ops c e)[i]? = some dummyO := by
 unfold stageO
 rw [List.getElem?_append_left (by simpa using hi), List.getElem?_replicate, if_pos hi]
theorem stageO_hi {ops : List Oper} {c e i : Nat} (hc : c ≤ i) (hi : i < e) : (stageO ops c e)[i]? = ops[i]? := by
 unfold stageO
 rw [List.getElem?_append_right (by simpa using hc), List.length_replicate, List.getElem?_drop, show c + (i - c) = i by omega, List.getElem?_take, if_pos hi]
theorem sub_any {ro : Option Nat} {Q : Exit → Act → World → Prop} {R : Act → World → Prop} {c e : Nat} (hc : c ≤ e) (he : e ≤ ops.size) (hm : masksOk ops.toList ms = true) (hb : barOk ops.toList ms e = true) (hg : guardsIn ops.toList c e = true)
  (hR : ∀ a w (fuel : Nat) (L : Array Bool), R a w → L.size = ops.size → (∀ i, i < e → L.getD i false = true) → (∀ i, e ≤ i → L.getD i false = false) → DC ops.toList L → cnt ops.size L ≤ fuel → wpAnyIn (ring ro) 0 P .any ops Q fuel L a w) :
  ∀ (fuel fuelE : Nat) (L LE : Array Bool) (a : Act) (w : World), wpAnyIn (ring ro) 0 P .any (stageO ops.toList c e).toArray (exQ Q R) fuelE LE a w → LE.size = e → L.size = ops.size → (∀ i, i < e → L.getD i false = LE.getD i false) →
    (∀ i, e ≤ i → L.getD i false = false) → (∀ i, i < c → L.getD i false = true) → DC ops.toList L → cnt ops.size L ≤ fuel → wpAnyIn (ring ro) 0 P .any ops Q fuel L a w := by
 have hel : e ≤ ops.toList.length := by simpa using he
 have hsz : (stageO ops.toList c e).toArray.size = e := by simp [stageO_len hc hel]
 intro fuel
 induction fuel with
 | zero =>
   intro fuelE L LE a w h hLE hL hag hhi hlo hdc hcnt
   have hall := cnt_zero (by omega : cnt ops.size L = 0)
   have hrE : Region.ready .any (stageO ops.toList c e).toArray LE = [] := ready_nil (by rw [hLE, hsz]) fun i hi => by rw [hsz] at hi; rw [← hag i hi]; exact hall i (by omega)
   have hn : R a w := by
    cases fuelE with
    | zero => exact h.2
    | succ f => exact h.1 hrE
   exact hR a w 0 L hn hL (fun i hi => hall i (by omega)) hhi hdc hcnt
 | succ fuel ih =>
   intro fuelE L LE a w h hLE hL hag hhi hlo hdc hcnt
   have hlenL : ∀ j, L.getD j false = true → j < ops.toList.length := fun j hj => by
    rcases Nat.lt_or_ge j L.size with h1 | h1
    ·rw [hL] at h1; simpa using h1
    ·simp [Array.getD_eq_getD_getElem?, Array.getElem?_eq_none h1] at hj
   by_cases hdone : ∀ i, i < e → L.getD i false = true
   ·have hrE : Region.ready .any (stageO ops.toList c e).toArray LE = [] := ready_nil (by rw [hLE, hsz]) fun i hi => by rw [hsz] at hi; rw [← hag i hi]; exact hdone i hi
    have hn : R a w := by
     cases fuelE with
     | zero => exact h.2
     | succ f => exact h.1 hrE
    exact hR a w _ L hn hL hdone hhi hdc hcnt
   ·have key : ∀ i, i ∈ Region.ready .any ops L → i < e := fun i hi => by
     obtain ⟨h1, o, ho, hp⟩ := (ready_iff hL).1 hi
     rcases Nat.lt_or_ge i e with h2 | h2
     ·exact h2
     ·exact absurd (fun j hj => clo2 hm hdc hlenL i o ho hp j (barOk_spec hb (by
       rcases Nat.lt_or_ge i ops.toList.length with h3 | h3
       ·exact h3
       ·rw [List.getElem?_eq_none h3] at ho; cases ho) h2 hj)) hdone
    have hne : Region.ready .any ops L ≠ [] := fun hnil => hdone (progress2 hm hL he fun i hi => by rw [hnil] at hi; cases hi)
    refine ⟨fun hnil => absurd hnil hne, fun i hi => ?_⟩
    have hie := key i hi
    obtain ⟨hn, o, ho, hp⟩ := (ready_iff hL).1 hi
    have hci : c ≤ i := by
     rcases Nat.lt_or_ge i c with h1 | h1
     ·rw [hlo i h1] at hn; cases hn
     ·exact h1
    have hilt : i < ops.size := by omega
    have hiL : i < L.size := by omega
    have hoE : (stageO ops.toList c e)[i]? = some o := by rw [stageO_hi hci hie]; exact ho
    have hrE : i ∈ Region.ready .any (stageO ops.toList c e).toArray LE := (ready_iff (by rw [hLE, hsz])).2 ⟨by rw [← hag i hie]; exact hn, o, by simpa using hoE, fun p hpp => by
     have hpi := (masksOk_spec hm i o ho).2 p hpp
     rw [← hag p (by omega)]; exact hp p hpp⟩
    cases fuelE with
    | zero => rw [h.1] at hrE; cases hrE
    | succ fE =>
      have h2 := h.2 i hrE
      have hcs := cnt_set (ops := ops) hL hilt hn
      have step : ∀ a' w', wpAnyIn (ring ro) 0 P .any (stageO ops.toList c e).toArray (exQ Q R) fE (LE.setIfInBounds i true) a' w' → wpAnyIn (ring ro) 0 P .any ops Q fuel (L.setIfInBounds i true) a' w' := fun a' w' h3 => by
       refine ih fE _ _ a' w' h3 (by simp [hLE]) (by simp [hL]) (fun j hj => ?_) (fun j hj => ?_) (fun j hj => ?_) (dc_set hiL hdc ho hp) (by omega)
       ·rw [getD_set hiL, getD_set (by omega), hag j hj]
       ·rw [getD_set hiL, if_neg (by omega)]; exact hhi j hj
       ·rw [getD_set hiL]; split
        ·rfl
        ·exact hlo j hj
      unfold wpOpIn at h2 ⊢
      have e1 : ops[i]? = some o := by simpa using ho
      have e2 : (stageO ops.toList c e).toArray[i]? = some o := by simpa using hoE
      rw [e2] at h2; rw [e1]
      simp only at h2 ⊢
      have ew : Region.wanted o (yielded (stageO ops.toList c e).toArray a.tmps) = Region.wanted o (yielded ops a.tmps) := by
       unfold Region.wanted
       cases hgd : o.guard with
       | none => rfl
       | some q =>
         obtain ⟨j, want⟩ := q
         unfold guardsIn at hg
         rw [List.all_eq_true] at hg
         have hmem : o ∈ (ops.toList.take e).drop c := by
          refine List.mem_of_getElem? (i := i - c) ?_
          rw [List.getElem?_drop, show c + (i - c) = i by omega, List.getElem?_take, if_pos hie]; exact ho
         have := hg o hmem
         rw [hgd] at this
         simp only [Bool.and_eq_true, decide_eq_true_eq] at this
         simp only [yielded]
         have : (stageO ops.toList c e).toArray[j]? = ops[j]? := by
          have := stageO_hi (ops := ops.toList) this.1 this.2
          simpa using this
         rw [this]
      rw [ew] at h2
      split
      ·rename_i hw
       rw [if_pos hw] at h2
       exact exQ_upon step h2
      ·rename_i hw
       rw [if_neg hw] at h2
       exact ⟨h2.1, step _ _ h2.2⟩
theorem compOps_dummy {os : Array Oper} : ∀ (c : Nat) (l : List Oper) {ais : List AI}, compOps P n os (List.replicate c dummyO ++ l) = some ais → ∃ r, ais = List.replicate c dummyA ++ r ∧ compOps P n os l = some r
 | 0, l, ais, h => ⟨ais, rfl, by simpa using h⟩
 | c + 1, l, ais, h => by
   rw [List.replicate_succ, List.cons_append] at h
   simp only [compOps, compAI_dummy, Option.bind_some, Option.map_eq_some_iff] at h
   obtain ⟨as, h1, rfl⟩ := h
   obtain ⟨r, rfl, h2⟩ := compOps_dummy c l h1
   exact ⟨r, by rw [List.replicate_succ, List.cons_append], h2⟩
theorem wpD_dummy {σ : AH} {K : Env → Prop} : ∀ (c : Nat) (r : List AI) (env : Env), wpD P w₀ σ (List.replicate c dummyA ++ r) env K ↔ wpD P w₀ σ r env K
 | 0, r, env => by simp
 | c + 1, r, env => by
   rw [List.replicate_succ, List.cons_append]
   show wpD P w₀ σ (List.replicate c dummyA ++ r) env K ↔ _
   exact wpD_dummy c r env
theorem newsOf_dummy : ∀ (c : Nat) (r : List AI), newsOf (List.replicate c dummyA ++ r) = newsOf r
 | 0, r => by simp
 | c + 1, r => by
   rw [List.replicate_succ, List.cons_append]
   show newsOf (List.replicate c dummyA ++ r) = _
   exact newsOf_dummy c r
def stageAI (P : Program) (n : Nat) (ops : Array Oper) (c e : Nat) : Option (List AI) :=
 let os := stageO ops.toList c e
 (compOps P n os.toArray os).bind fun ais =>
  if drawOk os (masks os) (lateOf ais) e = true ∧ headChk os ais = true ∧ guardsIn ops.toList c e = true then some (ais.drop c) else none
def SW (P : Program) (w₀ : World) (ro : Option Nat) (n : Nat) (ops : Array Oper) (Q : Exit → Act → World → Prop) (dfs : List Deferred) (F₀ : Gh) (c : Nat) (env : Env) (σ : AH) : Prop :=
 ∀ (F : Gh) (a : Act) (w : World) (fuel : Nat) (L : Array Bool), F₀.le F → EnvR F n env a.tmps → a.defers = dfs → Inv w₀ F σ w → L.size = ops.size → (∀ i, i < c → L.getD i false = true) → (∀ i, c ≤ i → L.getD i false = false) →
   DC ops.toList L → cnt ops.size L ≤ fuel → wpAnyIn (ring ro) 0 P .any ops Q fuel L a w
variable {ro : Option Nat} {Q : Exit → Act → World → Prop} {dfs : List Deferred} {F₀ : Gh} {K : Env → AH → Prop} {env : Env} {σ τ : AH} {c e : Nat}
theorem SW.forget (h : SW P w₀ ro n ops Q dfs F₀ c env σ) (hs : σ.le τ) : SW P w₀ ro n ops Q dfs F₀ c env τ :=
 fun F a w fuel L h1 h2 h3 h4 h5 => h F a w fuel L h1 h2 h3 (h4.forget hs) h5
theorem SW.done (hq : ∀ a w, Left w₀ F₀ n dfs K a w → Q .normal a w) (h : K env σ) : SW P w₀ ro n ops Q dfs F₀ ops.size env σ := by
 intro F a w fuel L h1 h2 h3 h4 h5 h6 h7 h8 h9
 have hr : Region.ready .any ops L = [] := ready_nil h5 fun i hi => h6 i hi
 have hn := hq a w ⟨F, env, σ, h1, h2, h3, h4, h⟩
 cases fuel with
 | zero => exact ⟨hr, hn⟩
 | succ f => exact ⟨fun _ => hn, fun i hi => by rw [hr] at hi; cases hi⟩
theorem SW.head (hm : masksOk ops.toList ms = true) (hc : c ≤ e) (he : e ≤ ops.size) (hb : barOk ops.toList ms e = true) {ais : List AI} (hs : stageAI P n ops c e = some ais)
  {K1 : Env → Prop} (h : wpD P w₀ σ ais env K1) (hK1 : ∀ env', K1 env' → ∀ τ, σ.le τ → wpNews σ τ (newsOf ais) [] env' fun env'' => SW P w₀ ro n ops Q dfs F₀ e env'' τ) : SW P w₀ ro n ops Q dfs F₀ c env σ := by
 intro F a w fuel L h1 h2 h3 h4 h5 h6 h7 h8 h9
 unfold stageAI at hs
 simp only [Option.bind_eq_some_iff] at hs
 obtain ⟨aisE, hcomp, hs⟩ := hs
 split at hs
 case isFalse => cases hs
 rename_i hchk
 obtain ⟨hdok, hhead, hg⟩ := hchk
 cases hs
 have hel : e ≤ ops.toList.length := by simpa using he
 have hlenO := stageO_len hc hel
 have hsz : (stageO ops.toList c e).toArray.size = e := by simp [hlenO]
 obtain ⟨r, hrE, hcr⟩ := compOps_dummy c _ (show compOps P n (stageO ops.toList c e).toArray (List.replicate c dummyO ++ (ops.toList.take e).drop c) = some aisE from hcomp)
 have hdrop : aisE.drop c = r := by rw [hrE, List.drop_left' (by simp)]
 rw [hdrop] at h
 have hlenE : aisE.length = e := by rw [(compOps_at hcomp).1, hlenO]
 have hDE := (wpD_dummy (P := P) (w₀ := w₀) (σ := σ) c r env).2 h
 rw [← hrE] at hDE
 have hok : ∀ ai ∈ aisE, ai.op.headOk = true := fun ai hai => by
  obtain ⟨i, hi, hget⟩ := List.getElem_of_mem hai
  have hio : i < (stageO ops.toList c e).length := by omega
  exact (headChk_at hhead i _ ai (List.getElem?_eq_getElem hio) (by rw [List.getElem?_eq_getElem hi, hget])).1
 obtain ⟨vs, envm, hchain, hK⟩ := wpD_chain hok hDE
 have htE : aisE.take e = aisE := List.take_of_length_le (by omega)
 have htO : (stageO ops.toList c e).take e = stageO ops.toList c e := List.take_of_length_le (by omega)
 have hctx : DCtx P w₀ n (stageO ops.toList c e).toArray aisE (masks (stageO ops.toList c e)) e env σ vs envm :=
  ⟨by simpa using drawOk_spec hdok, by simpa using hcomp, by simpa [htE, htO] using hhead, by rw [htE]; exact hchain⟩
 let LE : Array Bool := ⟨L.toList.take e⟩
 have hLE : LE.size = e := by simp [LE]; omega
 have hag : ∀ i, i < e → L.getD i false = LE.getD i false := fun i hi => by
  simp [LE, Array.getD_eq_getD_getElem?, List.getElem?_take, hi]
 have hat : ∀ i ai, aisE[i]? = some ai → LE.getD i false = true → i < e → ai = dummyA := fun i ai hi hL hie => by
  rw [← hag i hie] at hL
  have hic : i < c := by
   rcases Nat.lt_or_ge i c with h10 | h10
   ·exact h10
   ·rw [h7 i h10] at hL; cases hL
  rw [hrE, List.getElem?_append_left (by simpa using hic), List.getElem?_replicate, if_pos hic] at hi
  cases hi; rfl
 refine sub_any (R := Left w₀ F₀ n dfs fun env τ => SW P w₀ ro n ops Q dfs F₀ e env τ) hc he hm hb hg (fun a' w' fuel' L' ⟨F', env', σ', g1, g2, g3, g4, g5⟩ k1 k2 k3 k4 k5 => g5 F' a' w' fuel' L' g1 g2 g3 g4 k1 k2 k3 k4 k5)
  fuel e L LE a w ?_ hLE h5 hag (fun i hi => h7 i (by omega)) h6 h8 h9
 refine draw_sound (F₀ := F) (dfs := dfs) (K := fun env τ => SW P w₀ ro n ops Q dfs F₀ e env τ) hctx (by rw [hsz]; exact Nat.le_refl _) (fun τ hτ => ?_) (fun a' w' hl => ?_) e LE a w F σ (fun _ => 0) ?_ ?_
 ·rw [htE, List.drop_of_length_le (by omega), hrE, newsOf_dummy]
  have := hK1 _ hK τ hτ
  rw [hdrop] at this
  exact this
 ·exact hl.mono h1
 ·refine ⟨F.le_refl, σ.le_refl, h4, h3, h2.1, by rw [hLE, hsz], fun i o ho hL => ?_, fun i hi => ?_, fun i ai V d hi hie hL hV hd => ?_, fun i ai zs d hi hie hL hz hd => ?_, fun i j ai aj hi hj hie hje hL hLj hz hz' => ?_, fun t ht => h2.2 t⟩
  ·have hie : i < e := by
    rcases Nat.lt_or_ge i e with h10 | h10
    ·exact h10
    ·simp [Array.getD_eq_getD_getElem?, Array.getElem?_eq_none (show LE.size ≤ i by omega)] at hL
   have hic : i < c := by
    rw [← hag i hie] at hL
    rcases Nat.lt_or_ge i c with h10 | h10
    ·exact h10
    ·rw [h7 i h10] at hL; cases hL
   have ho' : (stageO ops.toList c e)[i]? = some o := by simpa using ho
   rw [stageO_lo hic] at ho'
   cases ho'
   intro p hp; cases hp
  ·simp [Array.getD_eq_getD_getElem?, Array.getElem?_eq_none (show LE.size ≤ i by omega)]
  ·rw [hat i ai hi hL hie] at hd; cases hd
  ·rw [hat i ai hi hL hie] at hd; cases hd
  ·rw [hat i ai hi hL hie] at hz; cases hz
 ·rw [hsz]; unfold cnt
  exact Nat.le_trans List.countP_le_length (by simp)
theorem SW.single (hm : masksOk ops.toList ms = true) (he : c + 1 ≤ ops.size) (hb : barOk ops.toList ms (c + 1) = true) {o : Oper} {ai : AI} {tl : List AI} (ho : ops[c]? = some o) (hai : compAI P n ops o = some ai)
  (h : wpOps P w₀ (ai :: tl) env σ K) (hk : ∀ env σ, wpOps P w₀ tl env σ K → SW P w₀ ro n ops Q dfs F₀ (c + 1) env σ) : SW P w₀ ro n ops Q dfs F₀ c env σ := by
 intro F a w fuel L h1 h2 h3 h4 h5 h6 h7 h8 h9
 have hlenL : ∀ j, L.getD j false = true → j < ops.toList.length := fun j hj => by
  rcases Nat.lt_or_ge j L.size with h1 | h1
  ·rw [h5] at h1; simpa using h1
  ·simp [Array.getD_eq_getD_getElem?, Array.getElem?_eq_none h1] at hj
 have hic : c < L.size := by omega
 have only : ∀ i, i ∈ Region.ready .any ops L → i = c := fun i hi => by
  obtain ⟨g1, o', g2, g3⟩ := (ready_iff h5).1 hi
  have hil : i < ops.toList.length := by
   rcases Nat.lt_or_ge i ops.toList.length with h3 | h3
   ·exact h3
   ·rw [List.getElem?_eq_none h3] at g2; cases g2
  rcases Nat.lt_or_ge i c with h10 | h10
  ·rw [h6 i h10] at g1; cases g1
  rcases Nat.lt_or_ge c i with h11 | h11
  ·have := clo2 hm h8 hlenL i o' g2 g3 c (barOk_spec hb hil (by omega) (by omega))
   rw [h7 c (Nat.le_refl _)] at this; cases this
  ·omega
 have hne : Region.ready .any ops L ≠ [] := fun hnil => by
  have := progress2 (e := c + 1) hm h5 he (fun i hi => by rw [hnil] at hi; cases hi) c (by omega)
  rw [h7 c (Nat.le_refl _)] at this; cases this
 have hcs := cnt_set (ops := ops) h5 (show c < ops.size by omega) (h7 c (Nat.le_refl _))
 cases fuel with
 | zero => omega
 | succ fuel =>
   refine ⟨fun hnil => absurd hnil hne, fun i hi => ?_⟩
   have := only i hi; subst this
   obtain ⟨_, o', g2, g3⟩ := (ready_iff h5).1 hi
   have e0 : o' = o := by
    have : ops.toList[i]? = some o := by simpa using ho
    rw [g2] at this; cases this; rfl
   subst e0
   have hs := wpOps_sound (ro := ro) (Q := exQ Q fun a' w' => wpAnyIn (ring ro) 0 P .any ops Q fuel (L.setIfInBounds i true) a' w') (K := fun env σ => wpOps P w₀ tl env σ K) (dfs := dfs) [o'] [i] [ai] F env σ a w
    (fun k => by cases k with | zero => simpa using ho.symm | succ k => simp) rfl (by simp [compOps, hai]) h2 h3 h4 h (fun a' w' ⟨F', env', σ', k1, k2, k3, k4, k5⟩ => ?_)
   ·simp only [wpOpsIn, ho] at hs
    unfold wpOpIn
    rw [ho]
    simp only
    split
    ·rename_i hw
     rw [if_pos hw] at hs
     exact exQ_upon (fun _ _ hh => hh) hs
    ·rename_i hw
     rw [if_neg hw] at hs
     exact ⟨hs.1, hs.2⟩
   ·refine hk env' σ' k5 F' a' w' fuel _ (Gh.le_trans h1 k1) k2 k3 k4 (by simp [h5]) (fun j hj => ?_) (fun j hj => ?_) (dc_set hic h8 g2 g3) (by omega)
    ·rw [getD_set hic]
     split
     ·rfl
     ·exact h6 j (by omega)
    ·rw [getD_set hic, if_neg (by omega)]
     exact h7 j (by omega)
theorem wpNews_monoK {K K' : Env → Prop} (hk : ∀ e, K e → K' e) : ∀ (l : List (Nat × List AV)) (prev : List Nat) (env : Env), wpNews σ τ l prev env K → wpNews σ τ l prev env K'
 | [], prev, env, h => hk _ h
 | (d, zs) :: r, prev, env, h => fun b h1 h2 h3 => wpNews_monoK hk r _ _ (h b h1 h2 h3)
def AOp.calm : AOp → Bool
 | .mv _ | .ext .. | .fa .. | .nilck _ | .pick .. | .un .. => true
 | _ => false
theorem calm_H {op : AOp} {K : AV → AH → Prop} {K' : AV → Prop} (hc : op.calm = true) (hk : ∀ v, K v σ → K' v) (h : wpA P w₀ env σ op K) : wpH P w₀ env σ op K' := by
 cases op <;> first | (cases hc; done) | skip
 case mv x => exact hk _ h
 case pick c a b => simp only [wpH, wpA] at h ⊢; split at h <;> first | exact hk _ h | exact h.elim
 case un op x => simp only [wpH, wpA, unA] at h ⊢; split at h <;> first | exact hk _ h | exact h.elim
 case fa a b c => simp only [wpH, wpA] at h ⊢; split at h <;> first | exact ⟨h.1, hk _ h.2⟩ | exact hk _ h | exact h.elim
 case nilck x => simp only [wpH, wpA] at h ⊢; split at h <;> first | exact hk _ h | exact h.elim
 case ext i x => simp only [wpH, wpA] at h ⊢; split at h <;> first | exact ⟨h.1, hk _ h.2⟩ | exact h.elim
theorem calm_new {op : AOp} (hc : op.calm = true) : op.isNew = none := by cases op <;> first | rfl | cases hc
theorem calm_D {K2 : Env → Prop} {tl : List AI} (hk : ∀ env', wpOps P w₀ tl env' σ K → K2 env') : ∀ (ais : List AI) (env : Env), ais.all (fun a => a.op.calm) = true → wpOps P w₀ (ais ++ tl) env σ K → wpD P w₀ σ ais env K2
 | [], env, _, h => hk _ h
 | ai :: ais, env, hc, h => by
   simp only [List.all_cons, Bool.and_eq_true] at hc
   rw [List.cons_append, wpOps] at h
   simp only [wpD, calm_new hc.1]
   cases hg : ai.guard with
   | none =>
     rw [hg] at h
     exact calm_H hc.1 (fun v hv => calm_D hk ais _ hc.2 hv) h
   | some q =>
     obtain ⟨d, want⟩ := q
     rw [hg] at h
     simp only at h ⊢
     cases hd : env.get d <;> rw [hd] at h <;> simp only at h ⊢ <;> first | exact h.elim | skip
     case bool b =>
      split at h
      ·rename_i hb
       rw [if_pos hb]
       exact calm_H hc.1 (fun v hv => calm_D hk ais _ hc.2 hv) h
      ·rename_i hb
       rw [if_neg hb]
       exact calm_D hk ais _ hc.2 h
     case tup xs => exact calm_D hk ais _ hc.2 h
theorem calm_news : ∀ (ais : List AI), ais.all (fun a => a.op.calm) = true → newsOf ais = []
 | [], _ => rfl
 | ai :: ais, hc => by
   simp only [List.all_cons, Bool.and_eq_true] at hc
   simp only [newsOf, calm_new hc.1]
   exact calm_news ais hc.2
end
end Go.AL
namespace Go.AL
open Go.RowKit
set_option linter.unusedVariables false
set_option linter.unusedSectionVars false
set_option linter.unusedSimpArgs false
section
variable {P : Program} {w₀ : World} {F : Gh} {σ : AH} {w : World}
theorem Inv.poke (h : Inv w₀ F σ w) {b e0 : Nat} {us : Array Value} {T : TypeId} (hg : w.heap[b]? = some (.cells us T (0, 0))) (hfree : ∀ i, e0 ≤ i → F b i = none) (hσ : σ b = none ∨ ∃ e lim, σ b = some (.row e lim)) (hb : w₀.heap.size ≤ b)
  (news : List Value) (hfit : e0 + news.length ≤ us.size) : Inv w₀ F σ (w.setCells b e0 news) := by
 have hg2 : (w.setCells b e0 news).heap[b]? = some (.cells ⟨setAt us.toList e0 news⟩ T (0, 0)) := heap_setCells_same news us.toList e0 w (by simpa using hg)
 refine ⟨fun c i v hv => ?_, fun c o hc => ?_, h.apart, h.new, ?_⟩
 ·by_cases hcb : c = b
  ·subst hcb
   have hi : i < e0 := by
    rcases Nat.lt_or_ge i e0 with h1 | h1
    ·exact h1
    ·rw [hfree i h1] at hv; cases hv
   simp only [World.cell?, hg2]
   have := getElem?_setAt news us.toList e0 i (by simpa using hfit)
   rw [if_neg (by omega)] at this
   have h2 := h.imm _ _ _ hv
   simp only [World.cell?, hg] at h2
   simpa [this] using h2
  ·have := h.imm _ _ _ hv
   simpa [World.cell?, heap_setCells_ne hcb news e0 w] using this
 ·by_cases hcb : c = b
  ·subst hcb
   rcases hσ with h1 | ⟨e, lim, h1⟩
   ·rw [h1] at hc; cases hc
   ·rw [h1] at hc; cases hc
    obtain ⟨us', T', h2, h3, h4⟩ := h.obj _ _ h1
    rw [hg] at h2; cases h2
    exact ⟨_, T, hg2, by simpa [length_setAt] using h3, h4⟩
  ·exact (h.obj c o hc).congr (heap_setCells_ne hcb news e0 w)
 ·exact h.base.trans ⟨World.os_setCells _ _ _ _, tape_setCells _ _ _, World.output_setCells _ _ _ _, by rw [size_setCells]; exact Nat.le_refl _, fun k hk => heap_setCells_ne (by omega) news e0 w⟩
theorem Inv.claim (h : Inv w₀ F σ w) {b e0 : Nat} {us : Array Value} {T : TypeId} (hg : w.heap[b]? = some (.cells us T (0, 0))) (hfree : ∀ i, e0 ≤ i → F b i = none) (hσ : σ b = none ∨ ∃ e lim, σ b = some (.row e lim)) (hb : w₀.heap.size ≤ b)
  (news : List Value) (hfit : e0 + news.length ≤ us.size) (hn : ∀ j v, news[j]? = some v → us[e0 + j]? = some v) :
  ∃ F', F.le F' ∧ (∀ j v, news[j]? = some v → F' b (e0 + j) = some v) ∧ Inv w₀ F' (σ.put b (.row (e0 + news.length) us.size)) w := by
 have hle' : F.le (fun c i => if c = b ∧ e0 ≤ i ∧ i < e0 + news.length then news[i - e0]? else F c i) := fun c i v hv => by
  by_cases hc : c = b ∧ e0 ≤ i ∧ i < e0 + news.length
  ·obtain ⟨rfl, h1, _⟩ := hc; rw [hfree i h1] at hv; cases hv
  ·simp only [hc, if_false]; exact hv
 refine ⟨_, hle', fun j v hv => ?_, ⟨fun c i v hv => ?_, fun c o hc => ?_, fun c o hc => ?_, fun c o hc => ?_, h.base⟩⟩
 ·have hj : j < news.length := by
   rcases Nat.lt_or_ge j news.length with h1 | h1
   ·exact h1
   ·rw [List.getElem?_eq_none h1] at hv; cases hv
  simp only [true_and]
  rw [if_pos (by omega), Nat.add_sub_cancel_left]; exact hv
 ·by_cases hc : c = b ∧ e0 ≤ i ∧ i < e0 + news.length
  ·simp only [hc, and_self, if_true] at hv
   obtain ⟨rfl, h1, h2⟩ := hc
   have := hn _ _ hv
   rw [show e0 + (i - e0) = i by omega] at this
   simp only [World.cell?, hg]
   simpa using this
  ·simp only [hc, if_false] at hv
   exact h.imm _ _ _ hv
 ·by_cases hcb : c = b
  ·subst hcb; rw [AH.put_same] at hc; cases hc
   exact ⟨us, T, hg, rfl, hfit⟩
  ·rw [AH.put_ne _ _ hcb] at hc
   exact (h.obj c o hc).mono hle'
 ·by_cases hcb : c = b
  ·subst hcb; rw [AH.put_same] at hc; cases hc
   intro i hi
   show (if c = c ∧ e0 ≤ i ∧ i < e0 + news.length then news[i - e0]? else F c i) = none
   rw [if_neg (by omega)]; exact hfree i (by omega)
  ·rw [AH.put_ne _ _ hcb] at hc
   have := h.apart c o hc
   cases o <;> simp only [AObj.free, hcb, false_and, if_false] at this ⊢ <;> exact this
 ·by_cases hcb : c = b
  ·subst hcb; exact hb
  ·rw [AH.put_ne _ _ hcb] at hc; exact h.new c o hc
structure One (w₀ : World) (F : Gh) (σ : AH) (t : Tok) (xs : List AV) (sz b off c s0 : Nat) (pre : List Value) (w : World) : Prop where
 inv : Inv w₀ F σ w
 blk : ∃ (us : Array Value) (T : TypeId), w.heap[b]? = some (.cells us T (0, 0)) ∧ s0 + pre.length + sz ≤ us.size ∧ (∀ j v, pre[j]? = some v → us[s0 + j]? = some v) ∧ (σ b = none ∨ (σ b = some (.row s0 us.size) ∧ t = .own b s0 us.size)) ∧ off + c * sz ≤ us.size
 free : ∀ i, s0 ≤ i → F b i = none
 lo : w₀.heap.size ≤ b
 pos : s0 + pre.length = off + xs.length * sz
 cap : xs.length + 1 ≤ c ∧ c < 9223372036854775808
 old : ∃ olds : List Value, RelL F (xs.flatMap AV.cells) olds ∧ ((off = s0 ∧ pre = olds) ∨ (pre = [] ∧ ∀ q v, olds[q]? = some v → F b (off + q) = some v))
 one : (xs.flatMap AV.cells).all AV.one = true
 szs : ∀ x ∈ xs, x.cells.length = sz
theorem append_one {t u e tt : TypeId} {i : TypeInfo} {x y : Value} {xs : List AV} {z : AV} {tk tk2 : Tok} (ht : P.underlying t = some (.slice e)) (hu : P.underlying u = some (.slice e)) (hi : P.info? e = some i) (hby : i.bytes ≤ 4096) {z0 : AV} (hz : zeroAV P e = some z0) (hzs : z0.cells.length = i.size)
  (hI : Inv w₀ F σ w) (ra : Rel F (.lst i.size xs tk) x) (rb : Rel F (.lst i.size [z] tk2) y) (hlive : Live σ tk) (hbound : xs.length + 1 ≤ 8589934592) :
  ∃ b off c w' s0 pre, (Builtin.append_ #[t, u] tt #[x, y]).run P w = .ok (.slice (some ⟨b, off, none⟩) (xs.length + 1) c) w' ∧ One w₀ F σ tk xs i.size b off c s0 pre w' := by
 obtain ⟨zv, _, hzrel, hzok, i', hi', hzv⟩ := zeroAV_run hz
 rw [hi] at hi'; cases hi'
 have hzl : zv.cells.size = i.size := by rw [← hzs, ((hzrel F).cellsOk hzok).length]; simp
 -- the source
 obtain ⟨news, hnews, hsrc⟩ : ∃ news, RelL F ([z].flatMap AV.cells) news ∧ Src P i.size u y 1 news w := by
  rcases rb.lst_inv with ⟨p, c, hv, h0, _⟩ | ⟨us, blk, off, c, hv, ho1, hr, hi2, hs, hc, hm, htk⟩
  ·cases h0
  ·refine ⟨us, hr, ?_⟩
   rw [hv]
   exact Src.ofSlice w hu _ _ _ us (by rw [← hr.length, flatMap_length hs]) (fun j v hj => by rw [Addr.add_mk]; exact hI.imm _ _ _ (hi2 j v hj)) (hr.one ho1)
 have hnl : news.length = i.size := by have := hsrc.newsLen; omega
 obtain ⟨p, c, olds, hv, hxo, hold, hlc, hc63, hxs, holdrun, hplace⟩ : ∃ p c olds, x = .slice p xs.length c ∧ (xs.flatMap AV.cells).all AV.one = true ∧ RelL F (xs.flatMap AV.cells) olds ∧ xs.length ≤ c ∧ c < 9223372036854775808 ∧
   (∀ x' ∈ xs, x'.cells.length = i.size) ∧ (∀ w', w'.heap = w.heap → (Builtin.firstCells i.size xs.length (.slice p xs.length c)).run P w' = .ok olds.toArray w') ∧
   ((c = 0 ∧ xs = []) ∨ ∃ blk off, p = some ⟨blk, off, none⟩ ∧ TokAt blk off xs.length c i.size tk ∧ ∀ (q : Nat) (v : Value), olds[q]? = some v → F blk (off + q) = some v) := by
  rcases ra.lst_inv with ⟨p, c, hv, rfl, htk, hm⟩ | ⟨us, blk, off, c, hv, ho1, hr, hi2, hs, hc, hm, htk⟩
  ·have hc0 : c = 0 := by
    rcases htk with rfl | ⟨_, h⟩
    ·exact hlive.elim
    ·exact h
   refine ⟨p, c, [], hv, rfl, .nil, by simp, hm, by simp, fun w' _ => ?_, .inl ⟨hc0, rfl⟩⟩
   cases p with
   | none => exact run_firstCells_none w' _ _ _ _
   | some q => exact run_firstCells_some w' _ _ q _ _ [] (by simp) (fun j v hj => by simp at hj)
  ·refine ⟨_, c, us, hv, ho1, hr, hc, hm, hs, fun w' hw' => ?_, .inr ⟨blk, off, rfl, htk, hi2⟩⟩
   refine run_firstCells_some w' _ _ _ _ _ us (by rw [← hr.length, flatMap_length hs]) (fun j v hj => ?_)
   rw [Addr.add_mk]
   have := hI.imm _ _ _ (hi2 j v hj)
   simpa [World.cell?, hw'] using this
 have hol : olds.length = xs.length * i.size := by rw [← hold.length, flatMap_length hxs]
 rw [hv]
 by_cases hroom : xs.length + 1 ≤ c
 ·rcases hplace with ⟨rfl, rfl⟩ | ⟨blk, off, rfl, htk, hi2⟩
  ·simp at hroom
  ·cases tk with
   | none => exact hlive.elim
   | clip => simp only [TokAt] at htk; omega
   | own b' ee lim =>
     obtain ⟨rfl, hee, hlim⟩ := htk
     simp only [Live] at hlive
     obtain ⟨us0, T0, hg0, hsz0, hle0⟩ := hI.obj _ _ hlive
     have hfit : ee + news.length ≤ lim := by
      rw [hnl, ← hee]
      have : (xs.length + 1) * i.size ≤ c * i.size := Nat.mul_le_mul_right _ hroom
      rw [Nat.add_mul, Nat.one_mul] at this
      omega
     have hr2 := run_append_room_src w t u tt e i ht hi b' off xs.length c y 1 news hsrc hroom (fun j hj => by
      have : off + xs.length * i.size + j < us0.size := by omega
      simp [World.cell?, hg0, this]) (fun j hj => by simp [World.frozen?, hg0])
     have hfree := hI.apart _ _ hlive
     rw [hee] at hr2
     have hg2 : (w.setCells b' ee news).heap[b']? = some (.cells ⟨setAt us0.toList ee news⟩ T0 (0, 0)) := heap_setCells_same news us0.toList ee w (by simpa using hg0)
     refine ⟨b', off, c, _, ee, [], hr2, ⟨hI.poke hg0 hfree (.inr ⟨_, _, hlive⟩) (hI.new _ _ hlive) news (by omega), ⟨_, T0, hg2, by simp [length_setAt]; omega, fun j v hj => by simp at hj, .inr ⟨by rw [hlive]; simp [length_setAt, hsz0], by simp [length_setAt, hsz0]⟩, by simp [length_setAt]; omega⟩, hfree, hI.new _ _ hlive, by simp; omega, ⟨hroom, hc63⟩, ⟨olds, hold, .inr ⟨rfl, hi2⟩⟩, hxo, hxs⟩⟩
 ·have hr2 := run_append_grow_src w t u tt e i zv ht hi hzv p xs.length c olds (holdrun w.drew rfl) y 1 news hsrc (by omega) (by omega)
   (growslice_fits (by omega) (Nat.le_trans (Nat.mul_le_mul hbound hby) (by decide)))
  have hcap : grownCap w (xs.length + 1) c e < 9223372036854775808 ∧ xs.length + 1 ≤ grownCap w (xs.length + 1) c e := by
   have hlt := Nat.mod_lt (w.tape w.drawn (.appendCap (xs.length + 1) c e)) (show 0 < 2 ^ 63 - (xs.length + 1) by omega)
   simp only [grownCap, Question.cut]
   omega
  generalize hcapE : grownCap w (xs.length + 1) c e = cap at hr2 hcap
  have hzcl : (Builtin.zeroCells zv.cells (cap - (xs.length + 1))).size = (cap - (xs.length + 1)) * i.size := by simp [size_zeroCells, hzl]
  have hfr : σ w.heap.size = none := hI.fresh
  have hfF : ∀ i, 0 ≤ i → F w.heap.size i = none := fun i _ => hI.freshF (Nat.le_refl _) i
  refine ⟨w.heap.size, 0, cap, _, 0, olds, hr2, ⟨?_, ⟨_, e, heap_alloc_new _ _, ?_, fun j v hj => ?_, .inl hfr, ?_⟩, hfF, hI.base.size, by omega, ⟨hcap.2, hcap.1⟩, ⟨olds, hold, .inl ⟨rfl, rfl⟩⟩, hxo, hxs⟩⟩
  ·have h0 := hI.drew
   refine ⟨fun b j v hv => ?_, fun b o hb => ?_, h0.apart, h0.new, h0.base.alloc h0.base.size _⟩
   ·have hne : b ≠ w.heap.size := by rintro rfl; rw [hI.freshF (Nat.le_refl _)] at hv; cases hv
    rw [World.cell?_alloc_old _ _ _ hne]; exact h0.imm _ _ _ hv
   ·exact (h0.obj b o hb).congr (heap_alloc_lt _ _ (h0.obj b o hb).lt)
  ·simp; omega
  ·have hj' : j < olds.length := by
    rcases Nat.lt_or_ge j olds.length with h1 | h1
    ·exact h1
    ·rw [List.getElem?_eq_none h1] at hj; cases hj
   have : ((olds ++ news).toArray ++ Builtin.zeroCells zv.cells (cap - (xs.length + 1)))[0 + j]? = (olds ++ news ++ (Builtin.zeroCells zv.cells (cap - (xs.length + 1))).toList)[j]? := by
    rw [Nat.zero_add, ← Array.getElem?_toList]; simp
   rw [this, List.append_assoc, List.getElem?_append_left hj']; exact hj
  ·have : (xs.length + 1) * i.size + (cap - (xs.length + 1)) * i.size = cap * i.size := by rw [← Nat.add_mul]; congr 1; omega
   rw [Nat.add_mul, Nat.one_mul] at this
   simp only [Array.size_append, List.size_toArray, List.length_append, hol, hnl, hzcl]
   omega
end
section
variable {P : Program} {w : World} {o : Oper} {ρ : Operand → Value} {K : Value → World → Prop}
theorem pureRuns {s : Sem Value} {v : Value} {w' : World} (h : s.run P w = .ok v w') (hK : K v w') : Runs P ((do pure (Next.value (← s)) : Sem Next).run P w) K := by
 simp only [Sem.run_bind, h, Result.andThen_ok, Sem.run_pure]; exact hK
theorem runs_ia {x ix : Operand} {t e : TypeId} {sz blk off n c : Nat} {k : IntKind} {j : Int} (ho : o.op = .indexAddr t x ix) (ht : P.underlying t = some (.slice e)) (hn : szOf P e = some sz)
  (hx : ρ x = .slice (some ⟨blk, off, none⟩) n c) (hi : ρ ix = .int k j) (h0 : 0 ≤ j) (h1 : j < n) (hK : K (.pointer (some ⟨blk, off + j.toNat * sz, none⟩)) w) : Runs P ((execOp ρ o).run P w) K := by
 have hrun : (Instr.indexAt t (ρ x) (ρ ix)).run P w = .ok (.pointer (some ⟨blk, off + j.toNat * sz, none⟩)) w := by
  simp [Instr.indexAt, hx, hi, asIntOf, run_underlying ht, h0, h1, run_sizeOf' hn, Addr.add_mk]
 simp only [execOp, ho]
 exact pureRuns hrun hK
theorem runs_nilck {x : Operand} {b off : Nat} (ho : o.op = .nilCheck x) (hx : ρ x = .pointer (some ⟨b, off, none⟩)) (hK : K (.pointer (some ⟨b, off, none⟩)) w) : Runs P ((execOp ρ o).run P w) K := by
 simp only [execOp, ho, hx]
 exact hK
theorem runs_fa {x : Operand} {s : TypeId} {f : Nat} {fs : Array Field} {fd : Field} {n b off : Nat} (ho : o.op = .fieldAddr s x f) (hs : P.underlying s = some (.struct fs)) (hf : fs[f]? = some fd) (hn : szOf P fd.type = some n) (h0 : n ≠ 0)
  (hx : ρ x = .pointer (some ⟨b, off, none⟩)) (hK : K (.pointer (some ⟨b, off + fd.offset, none⟩)) w) : Runs P ((execOp ρ o).run P w) K := by
 have hrun : (Instr.fieldAt s (ρ x) f).run P w = .ok (.pointer (some ⟨b, off + fd.offset, none⟩)) w := by
  simp [Instr.fieldAt, run_underlying hs, hf, hx, Instr.sureAddr, fieldPlace, run_sizeOf' hn, h0, Addr.add_mk]
 simp only [execOp, ho]
 exact pureRuns hrun hK
theorem runs_st {x v : Operand} {t : TypeId} {n b off : Nat} {us : Array Value} {T : TypeId} (ho : o.op = .store t x v) (hn : szOf P t = some n) (hx : ρ x = .pointer (some ⟨b, off, none⟩)) (hg : w.heap[b]? = some (.cells us T (0, 0)))
  (hl : (ρ v).cells.toList.length = n) (hfit : off + n ≤ us.size) (hone : ∀ u ∈ (ρ v).cells.toList, u.oneCell' = true) (hK : ∀ cv, K cv (w.setCells b off (ρ v).cells.toList)) : Runs P ((execOp ρ o).run P w) K := by
 have hst := run_storeCells_cells (P := P) b off (ρ v).cells.toList 0 w (fun j hj => by
   have : off + j < us.size := by omega
   simp [World.cell?, hg, this]) (fun j hj => by simp [World.frozen?, hg]) hone
 simp only [Nat.add_zero] at hst
 have hrun : (Instr.storeAt t (ρ x) (ρ v)).run P w = .ok () (w.setCells b off (ρ v).cells.toList) := by
  rw [hx]
  simp only [Instr.storeAt, Instr.sureAddr, Sem.run_bind, Sem.run_pure, Result.andThen_ok, storeVar, run_sizeOf' hn]
  have : ¬ (ρ v).cells.size ≠ n := by simpa using hl
  simp only [this, if_false, Sem.run_pure, Result.andThen_ok]
  exact hst
 simp only [execOp, ho, Sem.run_bind, hrun, Result.andThen_ok, Sem.run_pure]
 exact hK _
end
def AX.off (ds : List Nat) : AX → Bool
 | .t n => !ds.contains n
 | .c _ => true
theorem ev_off {env env' : Env} {x : AX} {ds : List Nat} (h : x.off ds = true) (he : ∀ t, t ∉ ds → env'.get t = env.get t) : ev env' x = ev env x := by
 cases x with
 | t n =>
   simp only [AX.off, Bool.not_eq_true', List.contains_eq_mem, decide_eq_false_iff_not] at h
   exact he n h
 | c v => rfl
structure AppF (P : Program) (n : Nat) (ops : Array Oper) (c sz : Nat) (ax aix ay av ap : AX) (d0 d1 d3 d4 fo : Nat) where
 o0 : Oper
 o1 : Oper
 o2 : Oper
 o3 : Oper
 o4 : Oper
 o5 : Oper
 x : Operand
 y : Operand
 ix : Operand
 v : Operand
 p : Operand
 t : TypeId
 u : TypeId
 t1 : TypeId
 e : TypeId
 te : TypeId
 s : TypeId
 t5 : TypeId
 f : Nat
 i : TypeInfo
 z : AV
 fs : Array Field
 fd : Field
 nf : Nat
 g0 : ops[c]? = some o0
 g1 : ops[c + 1]? = some o1
 g2 : ops[c + 2]? = some o2
 g3 : ops[c + 3]? = some o3
 g4 : ops[c + 4]? = some o4
 g5 : ops[c + 5]? = some o5
 h0 : o0.op = .call { callee := .builtin .append, args := ⟨[x, y]⟩, argTypes := ⟨[t, u]⟩ }
 h1 : o1.op = .indexAddr t1 (.tmp d0) ix
 h2 : o2.op = .store te (.tmp d1) v
 h3 : o3.op = .nilCheck p
 h4 : o4.op = .fieldAddr s (.tmp d3) f
 h5 : o5.op = .store t5 (.tmp d4) (.tmp d0)
 k0 : o0.dst = some d0 ∧ o0.guard = none
 k1 : o1.dst = some d1 ∧ o1.guard = none
 k2 : o2.dst = none ∧ o2.guard = none
 k3 : o3.dst = some d3 ∧ o3.guard = none
 k4 : o4.dst = some d4 ∧ o4.guard = none
 k5 : o5.dst = none ∧ o5.guard = none
 ht : P.underlying t = some (.slice e)
 hu : P.underlying u = some (.slice e)
 ht1 : P.underlying t1 = some (.slice e)
 hs : P.underlying s = some (.struct fs)
 hi : P.info? e = some i
 hz : zeroAV P e = some z
 hfd : fs[f]? = some fd
 hnf : szOf P fd.type = some nf
 cx : cOpd P t x = some ax
 cy : cOpd P u y = some ay
 cix : cOpd P 0 ix = some aix
 cv : cOpd P te v = some av
 cp : cOpd P 0 p = some ap
 isz : i.size = sz
 ffo : fd.offset = fo
 by4 : i.bytes ≤ 4096
 zsz : z.cells.length = i.size
 tes : szOf P te = some i.size
 es : szOf P e = some i.size
 t5s : szOf P t5 = some 1
 nf0 : nf ≠ 0
 dn : d0 < n ∧ d1 < n ∧ d3 < n ∧ d4 < n
 dd : [d0, d1, d3, d4].Nodup
 oix : aix.off [d0, d1, d3, d4] = true
 ov : av.off [d0, d1, d3, d4] = true
 op : ap.off [d0, d1, d3, d4] = true
 pr : c ∈ predsOf o1 ∧ c + 1 ∈ predsOf o2 ∧ c ∈ predsOf o3 ∧ c + 3 ∈ predsOf o4 ∧ c + 4 ∈ predsOf o5
def appfL (sz : Nat) (ax aix ay av ap : AX) (d0 d1 d3 d4 fo nf : Nat) : List AI :=
 [⟨some d0, none, .appf sz ax aix ay av⟩, ⟨some d1, none, .mv (.c .any)⟩, ⟨some d3, none, .nilck ap⟩, ⟨some d4, none, .fa fo nf (.t d3)⟩, ⟨none, none, .st 1 (.t d4) (.t d0)⟩]
def appfAI (P : Program) (n : Nat) (ops : Array Oper) (c : Nat) : Option (List AI) :=
 match ops[c]?, ops[c + 1]?, ops[c + 2]?, ops[c + 3]?, ops[c + 4]?, ops[c + 5]? with
 | some o0, some o1, some o2, some o3, some o4, some o5 =>
   match o0.op, o1.op, o2.op, o3.op, o4.op, o5.op, o0.dst, o1.dst, o3.dst, o4.dst with
   | .call ⟨.builtin .append, ⟨[x, y]⟩, ⟨[t, u]⟩⟩, .indexAddr t1 (.tmp a0) ix, .store te (.tmp a1) v, .nilCheck p, .fieldAddr s (.tmp a3) f, .store t5 (.tmp a4) (.tmp a5), some d0, some d1, some d3, some d4 =>
     match P.underlying t, P.underlying u, P.underlying t1, P.underlying s with
     | some (.slice e), some (.slice e1), some (.slice e2), some (.struct fs) =>
       match P.info? e, zeroAV P e, fs[f]?, cOpd P t x, cOpd P u y, cOpd P 0 ix, cOpd P te v, cOpd P 0 p with
       | some i, some z, some fd, some ax, some ay, some aix, some av, some ap =>
         match szOf P fd.type with
         | some nf =>
           if (e1 = e ∧ e2 = e ∧ a0 = d0 ∧ a1 = d1 ∧ a3 = d3 ∧ a4 = d4 ∧ a5 = d0) ∧ (i.bytes ≤ 4096 ∧ z.cells.length = i.size ∧ szOf P te = some i.size ∧ szOf P e = some i.size ∧ szOf P t5 = some 1 ∧ nf ≠ 0) ∧
            (o2.dst = none ∧ o5.dst = none ∧ o0.guard = none ∧ o1.guard = none ∧ o2.guard = none ∧ o3.guard = none ∧ o4.guard = none ∧ o5.guard = none) ∧ (d0 < n ∧ d1 < n ∧ d3 < n ∧ d4 < n) ∧ [d0, d1, d3, d4].Nodup ∧
            (aix.off [d0, d1, d3, d4] = true ∧ av.off [d0, d1, d3, d4] = true ∧ ap.off [d0, d1, d3, d4] = true) ∧ (c ∈ predsOf o1 ∧ c + 1 ∈ predsOf o2 ∧ c ∈ predsOf o3 ∧ c + 3 ∈ predsOf o4 ∧ c + 4 ∈ predsOf o5) then
            some (appfL i.size ax aix ay av ap d0 d1 d3 d4 fd.offset nf) else none
         | none => none
       | _, _, _, _, _, _, _, _ => none
     | _, _, _, _ => none
   | _, _, _, _, _, _, _, _, _, _ => none
 | _, _, _, _, _, _ => none
theorem appfAI_spec {P : Program} {n : Nat} {ops : Array Oper} {c : Nat} {l : List AI} (h : appfAI P n ops c = some l) : ∃ sz ax aix ay av ap d0 d1 d3 d4 fo nf, l = appfL sz ax aix ay av ap d0 d1 d3 d4 fo nf ∧ Nonempty (AppF P n ops c sz ax aix ay av ap d0 d1 d3 d4 fo) := by
 unfold appfAI at h
 split at h
 case h_2 => cases h
 rename_i o0 o1 o2 o3 o4 o5 g0 g1 g2 g3 g4 g5
 split at h
 case h_2 => cases h
 rename_i x y t u t1 a0 ix te a1 v p s a3 f t5 a4 a5 d0 d1 d3 d4 h0 h1 h2 h3 h4 h5 k0 k1 k3 k4
 split at h
 case h_2 => cases h
 rename_i e e1 e2 fs ht hu ht1 hs
 split at h
 case h_2 => cases h
 rename_i i z fd ax ay aix av ap hi hz hfd cx cy cix cv cp
 split at h
 case h_2 => cases h
 rename_i nf hnf
 split at h
 case isFalse => cases h
 rename_i hc
 obtain ⟨⟨rfl, rfl, rfl, rfl, rfl, rfl, rfl⟩, ⟨q1, q2, q3, q4, q5, q6⟩, ⟨r2, r5, u0, u1, u2, u3, u4, u5⟩, dn, dd, ⟨oix, ov, oap⟩, pr⟩ := hc
 cases h
 exact ⟨_, _, _, _, _, _, _, _, _, _, _, _, rfl, ⟨{
  o0 := o0,
  o1 := o1,
  o2 := o2,
  o3 := o3,
  o4 := o4,
  o5 := o5,
  x := x,
  y := y,
  ix := ix,
  v := v,
  p := p,
  t := t,
  u := u,
  t1 := t1,
  te := te,
  s := s,
  t5 := t5,
  f := f,
  i := i,
  z := z,
  fs := fs,
  fd := fd,
  nf := nf,
  g0 := g0,
  g1 := g1,
  g2 := g2,
  g3 := g3,
  g4 := g4,
  g5 := g5,
  h0 := h0,
  h1 := h1,
  h2 := h2,
  h3 := h3,
  h4 := h4,
  h5 := h5,
  ht := ht,
  hu := hu,
  ht1 := ht1,
  hs := hs,
  hi := hi,
  hz := hz,
  hfd := hfd,
  hnf := hnf,
  cx := cx,
  cy := cy,
  cix := cix,
  cv := cv,
  cp := cp,
  dn := dn,
  dd := dd,
  oix := oix,
  ov := ov,
  pr := pr,
  k0 := ⟨k0, u0⟩,
  k1 := ⟨k1, u1⟩,
  k2 := ⟨r2, u2⟩,
  k3 := ⟨k3, u3⟩,
  k4 := ⟨k4, u4⟩,
  k5 := ⟨r5, u5⟩,
  e := _,
  isz := rfl,
  ffo := rfl,
  by4 := q1,
  zsz := q2,
  tes := q3,
  es := q4,
  t5s := q5,
  nf0 := q6,
  op := oap }⟩⟩
theorem EnvR.turn {F F' : Gh} {n t : Nat} {env : Env} {tmps : Array Value} {x y : AV} (h : EnvR F n env tmps) (hF : F.le F') (ht : env.get t = x) (hx : x ≠ .any) (hxy : ∀ v, Rel F x v → Rel F' y v) : EnvR F' n (env.put t y) tmps := by
 refine ⟨h.1, fun u hu => ?_⟩
 by_cases hut : u = t
 ·subst hut
  rw [Env.get_put_same]
  obtain ⟨v, h1, h2⟩ := h.2 u (by rw [ht]; exact hx)
  rw [ht] at h2
  exact ⟨v, h1, hxy v h2⟩
 ·rw [Env.get_put_ne _ _ hut] at hu ⊢
  obtain ⟨v, h1, h2⟩ := h.2 u hu
  exact ⟨v, h1, h2.mono hF⟩
theorem EnvR.weak {F : Gh} {n : Nat} {env env' : Env} {tmps : Array Value} (h : EnvR F n env tmps) (hs : ∀ t, env'.get t = .any ∨ env'.get t = env.get t) : EnvR F n env' tmps :=
 ⟨h.1, fun t ht => by
  rcases hs t with h1 | h1
  ·exact absurd h1 ht
  ·rw [h1] at ht ⊢; exact h.2 t ht⟩
theorem RelL.set_turn {F F' : Gh} {x y : AV} (hF : F.le F') (hxy : ∀ v, Rel F x v → Rel F' y v) : ∀ {vs : List AV} {us : List Value} (o : Nat), RelL F (vs.set o x) us → RelL F' (vs.set o y) us
 | [], _, _, h => by cases h; exact .nil
 | _ :: _, _, 0, .cons h k => .cons (hxy _ h) (k.mono hF)
 | _ :: _, _, o + 1, .cons h k => .cons (h.mono hF) (RelL.set_turn hF hxy o k)
theorem oper_wpIn2 {P : Program} {w : World} {ro : Option Nat} {o : Oper} (hc : ∀ c, o.op ≠ .defer c) {a : Act} {next : Act → World → Prop} {Q : Exit → Act → World → Prop} {K : Value → World → Prop}
  (h : Runs P ((execOp a.eval o).run P w) K) (hk : ∀ v w, K v w → next (a.put o.dst v) w) : o.wpIn (ring ro) 0 P a w next Q := by
 refine ⟨fun _ _ => trivial, ?_⟩
 rw [Oper.semAt_eq _ _ _ hc]
 exact upon_of_runs h hk
theorem bare_cells_map (x : AV) : x.bare.cells = x.cells.map AV.bare1 := by cases x <;> rfl
section
variable {P : Program} {w₀ : World} {n : Nat} {ops : Array Oper} {ms : List Nat} {ro : Option Nat} {Q : Exit → Act → World → Prop} {dfs : List Deferred} {F₀ : Gh} {K : Env → AH → Prop} {env : Env} {σ : AH} {c : Nat}
theorem SW.appf {sz : Nat} {ax aix ay av ap : AX} {d0 d1 d3 d4 fo nf : Nat} {tl : List AI} (A : AppF P n ops c sz ax aix ay av ap d0 d1 d3 d4 fo) (hm : masksOk ops.toList ms = true) (he : c + 6 ≤ ops.size) (hb1 : barOk ops.toList ms (c + 1) = true)
  (hb6 : barOk ops.toList ms (c + 6) = true) (h : wpOps P w₀ (appfL sz ax aix ay av ap d0 d1 d3 d4 fo nf ++ tl) env σ K) (hk : ∀ env σ, wpOps P w₀ tl env σ K → SW P w₀ ro n ops Q dfs F₀ (c + 6) env σ) : SW P w₀ ro n ops Q dfs F₀ c env σ := by
 intro F a w fuel L h1 h2 h3 h4 h5 h6 h7 h8 h9
 -- what is asked
 simp only [appfL, List.cons_append, List.nil_append] at h
 rw [wpOps] at h
 simp only [wpA] at h
 split at h
 case h_2 => exact h.elim
 rename_i sz' xs tk kk k sz'' z tok2 ex eix ey
 obtain ⟨e1, e2, rfl, hlive, hbound, hvl, hvo, hK⟩ := h
 obtain rfl := e1.symm
 obtain rfl := e2.symm
 have d01 : d0 ≠ d1 := by have := A.dd; simp at this; omega
 have d03 : d0 ≠ d3 := by have := A.dd; simp at this; omega
 have d04 : d0 ≠ d4 := by have := A.dd; simp at this; omega
 have d13 : d1 ≠ d3 := by have := A.dd; simp at this; omega
 have d14 : d1 ≠ d4 := by have := A.dd; simp at this; omega
 have d34 : d3 ≠ d4 := by have := A.dd; simp at this; omega
 have hisz := A.isz
 have getDlt : ∀ {L : Array Bool} {q : Nat}, L.size = ops.size → L.getD q false = true → q < ops.size := fun {L q} hL hq => by
  rcases Nat.lt_or_ge q L.size with h1 | h1
  ·omega
  ·simp [Array.getD_eq_getD_getElem?, Array.getElem?_eq_none h1] at hq
 have hlenL : ∀ {L : Array Bool}, L.size = ops.size → ∀ j, L.getD j false = true → j < ops.toList.length := fun {L} hL j hj => by simpa using getDlt hL hj
 have opdef : ∀ {q : Nat} {o o' : Oper}, ops[q]? = some o → ops.toList[q]? = some o' → o' = o := fun {q o o'} g1 g2 => by
  have : ops.toList[q]? = some o := by simpa using g1
  rw [g2] at this; cases this; rfl
 have hltl : ∀ {q : Nat} {o : Oper}, ops.toList[q]? = some o → q < ops.toList.length := fun {q o} g => by
  rcases Nat.lt_or_ge q ops.toList.length with h1 | h1
  ·exact h1
  ·rw [List.getElem?_eq_none h1] at g; cases g
 -- the append
 have hic : c < L.size := by omega
 have only : ∀ i, i ∈ Region.ready .any ops L → i = c := fun i hi => by
  obtain ⟨g1, o', g2, g3⟩ := (ready_iff h5).1 hi
  rcases Nat.lt_or_ge i c with h10 | h10
  ·rw [h6 i h10] at g1; cases g1
  rcases Nat.lt_or_ge c i with h11 | h11
  ·have := clo2 hm h8 (hlenL h5) i o' g2 g3 c (barOk_spec hb1 (hltl g2) (by omega) (by omega))
   rw [h7 c (Nat.le_refl _)] at this; cases this
  ·omega
 have hne : Region.ready .any ops L ≠ [] := fun hnil => by
  have := progress2 (e := c + 1) hm h5 (by omega) (fun i hi => by rw [hnil] at hi; cases hi) c (by omega)
  rw [h7 c (Nat.le_refl _)] at this; cases this
 have hcs := cnt_set (ops := ops) h5 (show c < ops.size by omega) (h7 c (Nat.le_refl _))
 cases fuel with
 | zero => omega
 | succ fuel => ?_
 refine ⟨fun hnil => absurd hnil hne, fun i hi => ?_⟩
 obtain rfl := (only i hi).symm
 obtain ⟨_, o', g2, g3⟩ := (ready_iff h5).1 hi
 have := opdef A.g0 g2; subst this
 unfold wpOpIn
 rw [A.g0]
 simp only
 rw [if_pos (by simp [Region.wanted, A.k0.2])]
 have opd : ∀ {F : Gh} {env : Env} {a : Act}, EnvR F n env a.tmps → ∀ {x : Operand} {ty : TypeId} {ax : AX}, cOpd P ty x = some ax → Rel F (ev env ax) (a.eval x) := fun {F env a} he {x ty ax} hx => he.opd (P := P) [x] x (by simp) ty ax hx
 have ra := opd h2 A.cx; rw [ex] at ra
 have rb := opd h2 A.cy; rw [ey] at rb
 obtain ⟨b, off, cc, w1, s0, pre, hrun, one⟩ := append_one (tt := A.o0.type) A.ht A.hu A.hi A.by4 A.hz A.zsz h4 (by rw [A.isz]; exact ra) (by rw [A.isz]; exact rb) hlive hbound
 rw [A.isz] at one
 have hruns : Runs P ((execOp a.eval A.o0).run P w) fun cv w' => cv = .slice (some ⟨b, off, none⟩) (xs.length + 1) cc ∧ w' = w1 := by
  obtain ⟨cs, hr0⟩ := run_builtin (P := P) (w := w) A.h0 a
  rw [hr0]
  have hargs : (Array.map a.eval ⟨[A.x, A.y]⟩) = #[a.eval A.x, a.eval A.y] := by simp
  simp only [hargs]
  show Runs P ((do pure (Next.value (← Builtin.append_ #[A.t, A.u] A.o0.type #[a.eval A.x, a.eval A.y])) : Sem Next).run P w) _
  exact pureRuns hrun ⟨rfl, rfl⟩
 refine oper_wpIn2 (fun cl hcl => by rw [A.h0] at hcl; cases hcl) hruns ?_
 rintro cv w' ⟨rfl, rfl⟩
 obtain ⟨us, T, hgb, husz, hpre, hσb, hcap⟩ := one.blk
 -- the abstract end
 have happ : Appended σ tk (σ.put b (.row (s0 + pre.length + sz) us.size)) (.own b (s0 + pre.length + sz) us.size) := by
  refine ⟨fun q ob hq hne => ?_, fun q ob hq hne => ?_, AH.put_same _ _ _, fun q hq => ?_⟩
  ·have : q ≠ b := by
    rintro rfl
    rcases hσb with h10 | ⟨h10, h11⟩
    ·rw [h10] at hq; cases hq
    ·rw [h11] at hne; simp [Tok.isOn] at hne
   rw [AH.put_ne _ _ this]; exact hq
  ·have : q ≠ b := by rintro rfl; simp [Tok.isOn] at hne
   rw [AH.put_ne _ _ this] at hq; exact hq
  ·have : b = q := by simpa [Tok.isOn] using hq
   subst this
   rcases hσb with h10 | ⟨h10, h11⟩
   ·exact .inr h10
   ·left; rw [h11]; simp [Tok.isOn]
 have hK2 := hK _ _ happ
 obtain ⟨LL, hLL⟩ : ∃ x, x = AV.lst sz (xs ++ [(ev env av).bare]) (.own b (s0 + pre.length + sz) us.size) := ⟨_, rfl⟩
 rw [← hLL] at hK2
 have eap : ∀ {e' : Env}, (∀ t, t ∉ [d0, d1, d3, d4] → e'.get t = env.get t) → ev e' ap = ev env ap := fun h => ev_off A.op h
 have eav : ∀ {e' : Env}, (∀ t, t ∉ [d0, d1, d3, d4] → e'.get t = env.get t) → ev e' av = ev env av := fun h => ev_off A.ov h
 have eaix : ∀ {e' : Env}, (∀ t, t ∉ [d0, d1, d3, d4] → e'.get t = env.get t) → ev e' aix = ev env aix := fun h => ev_off A.oix h
 have p2 : ∀ (x0 x1 : AV) t, t ∉ [d0, d1, d3, d4] → ((env.put d0 x0).put d1 x1).get t = env.get t := fun x0 x1 t ht => by
  simp only [List.mem_cons, List.not_mem_nil, or_false, not_or] at ht
  rw [Env.get_put_ne _ _ ht.2.1, Env.get_put_ne _ _ ht.1]
 have p4 : ∀ (x0 x1 x3 x4 : AV) t, t ∉ [d0, d1, d3, d4] → ((((env.put d0 x0).put d1 x1).put d3 x3).put d4 x4).get t = env.get t := fun x0 x1 x3 x4 t ht => by
  have := p2 x0 x1 t ht
  simp only [List.mem_cons, List.not_mem_nil, or_false, not_or] at ht
  rw [Env.get_put_ne _ _ ht.2.2.2, Env.get_put_ne _ _ ht.2.2.1, this]
 have q0 : ∀ (x0 x1 x3 x4 : AV), ((((env.put d0 x0).put d1 x1).put d3 x3).put d4 x4).get d0 = x0 := fun x0 x1 x3 x4 => by
  rw [Env.get_put_ne _ _ d04, Env.get_put_ne _ _ d03, Env.get_put_ne _ _ d01, Env.get_put_same]
 have q1 : ∀ (x0 x1 x3 x4 : AV), ((((env.put d0 x0).put d1 x1).put d3 x3).put d4 x4).get d1 = x1 := fun x0 x1 x3 x4 => by
  rw [Env.get_put_ne _ _ d14, Env.get_put_ne _ _ d13, Env.get_put_same]
 have q3 : ∀ (x0 x1 x3 x4 : AV), ((((env.put d0 x0).put d1 x1).put d3 x3).put d4 x4).get d3 = x3 := fun x0 x1 x3 x4 => by
  rw [Env.get_put_ne _ _ d34, Env.get_put_same]
 have q4 : ∀ (x0 x1 x3 x4 : AV), ((((env.put d0 x0).put d1 x1).put d3 x3).put d4 x4).get d4 = x4 := fun x0 x1 x3 x4 => by
  rw [Env.get_put_same]
 obtain ⟨bf, o0, vs, eap', hbf, hvs, hKF⟩ : ∃ bf o0 vs, ev env ap = .ptr bf o0 ∧ (σ.put b (.row (s0 + pre.length + sz) us.size)) bf = some (.cells vs) ∧ o0 + fo + 1 ≤ vs.length ∧
   wpOps P w₀ tl ((((env.put d0 LL).put d1 .any).put d3 (.ptr bf o0)).put d4 (.ptr bf (o0 + fo))) ((σ.put b (.row (s0 + pre.length + sz) us.size)).put bf (.cells (vs.set (o0 + fo) LL))) K := by
  rw [wpOps] at hK2
  simp only [wpA, Env.set, ev] at hK2
  rw [wpOps] at hK2
  simp only [wpA, Env.set] at hK2
  rw [eap (p2 LL .any)] at hK2
  cases hap : ev env ap <;> rw [hap] at hK2 <;> simp only at hK2 <;> first | exact hK2.elim | skip
  case elt ys =>
   rw [wpOps] at hK2
   simp only [wpA, Env.set, ev, Env.get_put_same] at hK2
   rw [wpOps] at hK2
   simp only [wpA, Env.set, ev, Env.get_put_same] at hK2
   exact hK2.2.elim
  case ptr bf o0 =>
   rw [wpOps] at hK2
   simp only [wpA, Env.set, ev, Env.get_put_same] at hK2
   rw [wpOps] at hK2
   simp only [wpA, Env.set, ev, Env.get_put_same] at hK2
   rw [q0] at hK2
   split at hK2
   ·rename_i vs hvs
    obtain ⟨_, _, g5, g6⟩ := hK2
    refine ⟨bf, o0, vs, rfl, hvs, g5, ?_⟩
    have : LL.cells = [LL] := by rw [hLL]; rfl
    rw [this] at g6
    exact g6
   ·exact hK2.elim
 have hbfb : bf ≠ b := by rintro rfl; rw [AH.put_same] at hbf; cases hbf
 have hσbf : σ bf = some (.cells vs) := by rw [AH.put_ne _ _ hbfb] at hbf; exact hbf
 -- the rounds in between
 obtain ⟨Sl, hSl⟩ : ∃ x, x = AV.slc sz b off (xs.length + 1) cc := ⟨_, rfl⟩
 obtain ⟨E, hE⟩ : ∃ E : Nat → Nat → Env, E = fun i j => (((env.put d0 Sl).put d1 (if 1 ≤ i then .ptr b (off + xs.length * sz) else .any)).put d3 (if 1 ≤ j then .ptr bf o0 else .any)).put d4 (if 2 ≤ j then .ptr bf (o0 + fo) else .any) := ⟨_, rfl⟩
 obtain ⟨S, hS⟩ : ∃ S : Nat → AH, S = fun j => if 3 ≤ j then σ.put bf (.cells (vs.set (o0 + fo) Sl)) else σ := ⟨_, rfl⟩
 have hSb : ∀ j, S j b = σ b := fun j => by
  rw [hS]; simp only
  split
  ·rw [AH.put_ne _ _ hbfb.symm]
  ·rfl
 have hσr : ∀ j, S j b = none ∨ ∃ e lim, S j b = some (.row e lim) := fun j => by
  rw [hSb]
  rcases hσb with h10 | ⟨h10, _⟩
  ·exact .inl h10
  ·exact .inr ⟨_, _, h10⟩
 have main : ∀ (fuel i j : Nat) (L : Array Bool) (a : Act) (w : World), i ≤ 2 → j ≤ 3 → L.size = ops.size → (∀ q, q ≤ c → L.getD q false = true) → L.getD (c + 1) false = decide (1 ≤ i) → L.getD (c + 2) false = decide (2 ≤ i) →
   L.getD (c + 3) false = decide (1 ≤ j) → L.getD (c + 4) false = decide (2 ≤ j) → L.getD (c + 5) false = decide (3 ≤ j) → (∀ q, c + 6 ≤ q → L.getD q false = false) → DC ops.toList L →
   EnvR F n (E i j) a.tmps → a.defers = dfs → Inv w₀ F (S j) w → (∃ (us' : Array Value) (T : TypeId), w.heap[b]? = some (.cells us' T (0, 0)) ∧ us'.size = us.size ∧ (∀ q v, pre[q]? = some v → us'[s0 + q]? = some v) ∧
    (i = 2 → ∃ news, RelL F (ev env av).bare.cells news ∧ ∀ q v, news[q]? = some v → us'[s0 + pre.length + q]? = some v)) → cnt ops.size L ≤ fuel → wpAnyIn (ring ro) 0 P .any ops Q fuel L a w := by
  have final : ∀ (fuel : Nat) (L : Array Bool) (a : Act) (w : World), L.size = ops.size → (∀ q, q < c + 6 → L.getD q false = true) → (∀ q, c + 6 ≤ q → L.getD q false = false) → DC ops.toList L →
    EnvR F n (E 2 3) a.tmps → a.defers = dfs → Inv w₀ F (S 3) w → (∃ (us' : Array Value) (T : TypeId), w.heap[b]? = some (.cells us' T (0, 0)) ∧ us'.size = us.size ∧ (∀ q v, pre[q]? = some v → us'[s0 + q]? = some v) ∧
    (∃ news, RelL F (ev env av).bare.cells news ∧ ∀ q v, news[q]? = some v → us'[s0 + pre.length + q]? = some v)) → cnt ops.size L ≤ fuel → wpAnyIn (ring ro) 0 P .any ops Q fuel L a w := by
   intro fuel L a w hL hlo hhi hdc hen hdf hI ⟨us', T', hg', hsz', hpre', news, hnews, hnw⟩ hcnt
   have hnl : news.length = sz := by rw [← hnews.length, AV.length_bare]; exact hvl
   have hcl := Inv.claim hI hg' one.free (hσr 3) one.lo (pre ++ news) (by rw [List.length_append, hnl, hsz']; omega) (fun q v hq => by
    rw [List.getElem?_append] at hq
    split at hq
    ·exact hpre' q v hq
    ·rename_i hge
     have := hnw _ v hq
     rw [← this]; congr 1; omega)
   obtain ⟨F', hF, hFb, hI'⟩ := hcl
   obtain ⟨olds, hold, hcase⟩ := one.old
   have hol : olds.length = xs.length * sz := by rw [← hold.length, flatMap_length one.szs]
   have hLrel : ∀ v, Rel F Sl v → Rel F' LL v := by
    intro v hv
    rw [hSl] at hv
    rw [hv.slc_inv, hLL]
    have hcat : (xs ++ [(ev env av).bare]).flatMap AV.cells = xs.flatMap AV.cells ++ (ev env av).bare.cells := by simp
    refine .lst (us := olds ++ news) ?_ ?_ (fun q u hq => ?_) (fun x hx => ?_) one.cap.1 one.cap.2 ?_ (by simp)
    ·rw [hcat, List.all_append, one.one, Bool.true_and]
     exact AV.ok_bare hvo
    ·rw [hcat]; exact (hold.mono hF).append (hnews.mono hF)
    ·rcases hcase with ⟨h10, h11⟩ | ⟨h10, h11⟩
     ·rw [h10]; exact hFb q u (by rw [h11]; exact hq)
     ·rw [List.getElem?_append] at hq
      split at hq
      ·exact hF _ _ _ (h11 q u hq)
      ·rename_i hge
       have := hFb (q - olds.length) u (by rw [h10]; exact hq)
       rw [← this]
       have hp := one.pos
       rw [h10] at hp
       simp only [List.length_nil, Nat.add_zero] at hp
       congr 1; omega
    ·rcases List.mem_append.1 hx with h10 | h10
     ·exact one.szs x h10
     ·simp only [List.mem_singleton] at h10
      subst h10; rw [AV.length_bare]; exact hvl
    ·refine ⟨rfl, ?_, hcap⟩
     have hp := one.pos
     rw [Nat.add_mul, Nat.one_mul]; omega
   have hIF : Inv w₀ F' ((σ.put b (.row (s0 + pre.length + sz) us.size)).put bf (.cells (vs.set (o0 + fo) LL))) w := by
    have h10 : ((S 3).put b (.row (s0 + (pre ++ news).length) us'.size)) bf = some (.cells (vs.set (o0 + fo) Sl)) := by
     rw [AH.put_ne _ _ hbfb, hS]
     simp only [Nat.le_refl, if_true]
     exact AH.put_same _ _ _
    have h11 := hI.obj bf _ (by rw [hS]; simp only [Nat.le_refl, if_true]; exact AH.put_same σ bf (.cells (vs.set (o0 + fo) Sl)))
    obtain ⟨us2, T2, k1, k2⟩ := h11
    have k3 := RelL.set_turn hF hLrel (o0 + fo) k2
    have h12 : ∀ us, w.heap[bf]? = some (.cells ⟨us⟩ T2 (0, 0)) → RelL F' (vs.set (o0 + fo) LL) us := fun us hus => by
     rw [k1] at hus; cases hus; exact k3
    have heq : (σ.put b (.row (s0 + pre.length + sz) us.size)).put bf (.cells (vs.set (o0 + fo) LL)) = ((S 3).put b (.row (s0 + (pre ++ news).length) us'.size)).put bf (.cells (vs.set (o0 + fo) LL)) := by
     funext q
     by_cases hqb : q = bf
     ·subst hqb; rw [AH.put_same, AH.put_same]
     ·rw [AH.put_ne _ _ hqb, AH.put_ne _ _ hqb]
      by_cases hq2 : q = b
      ·subst hq2; rw [AH.put_same, AH.put_same, List.length_append, hnl, hsz', Nat.add_assoc]
      ·rw [AH.put_ne _ _ hq2, AH.put_ne _ _ hq2, hS]
       simp only [Nat.le_refl, if_true]
       rw [AH.put_ne _ _ hqb]
    rw [heq]
    refine ⟨hI'.imm, fun q ob hq => ?_, fun q ob hq => ?_, fun q ob hq => ?_, hI'.base⟩
    ·by_cases hqb : q = bf
     ·subst hqb; rw [AH.put_same] at hq; cases hq
      exact ⟨us2, T2, k1, k3⟩
     ·rw [AH.put_ne _ _ hqb] at hq; exact hI'.obj _ _ hq
    ·by_cases hqb : q = bf
     ·subst hqb; rw [AH.put_same] at hq; cases hq
      exact show ∀ i, F' q i = none from hI'.apart _ _ h10
     ·rw [AH.put_ne _ _ hqb] at hq; exact hI'.apart _ _ hq
    ·by_cases hqb : q = bf
     ·subst hqb; exact hI'.new _ _ h10
     ·rw [AH.put_ne _ _ hqb] at hq; exact hI'.new _ _ hq
   refine hk _ _ hKF F' a w fuel L (Gh.le_trans h1 hF) ?_ hdf hIF hL hlo hhi hdc hcnt
   have h13 := hen.turn hF (t := d0) (x := Sl) (y := LL) (by rw [hE]; exact q0 _ _ _ _) (by rw [hSl]; simp) hLrel
   refine h13.weak fun t => ?_
   by_cases t4 : t = d4
   ·right; rw [t4, q4, Env.get_put_ne _ _ d04.symm, hE]
    simp only [q4, show 2 ≤ 3 by omega, if_true]
   by_cases t3 : t = d3
   ·right; rw [t3, q3, Env.get_put_ne _ _ d03.symm, hE]
    simp only [q3, show 1 ≤ 3 by omega, if_true]
   by_cases t1 : t = d1
   ·left; rw [t1, q1]
   by_cases t0 : t = d0
   ·right; rw [t0, q0, Env.get_put_same]
   ·right
    rw [p4 _ _ _ _ t (by simp [t0, t1, t3, t4]), Env.get_put_ne _ _ t0, hE]
    simp only
    rw [p4 _ _ _ _ t (by simp [t0, t1, t3, t4])]
  intro fuel
  induction fuel with
  | zero =>
    intro i j L a w hi hj hL hlo l1 l2 l3 l4 l5 hhi hdc hen hdf hI hblk hcnt
    have hall := cnt_zero (by omega : cnt ops.size L = 0)
    have a2 := hall (c + 2) (by omega)
    have a5 := hall (c + 5) (by omega)
    rw [l2] at a2; rw [l5] at a5
    simp only [decide_eq_true_eq] at a2 a5
    obtain rfl : i = 2 := by omega
    obtain rfl : j = 3 := by omega
    obtain ⟨us', T', q1', q2', q3', q4'⟩ := hblk
    exact final 0 L a w hL (fun q hq => hall q (by omega)) hhi hdc hen hdf hI ⟨us', T', q1', q2', q3', q4' rfl⟩ hcnt
  | succ fuel ih =>
    intro i j L a w hi hj hL hlo l1 l2 l3 l4 l5 hhi hdc hen hdf hI hblk hcnt
    by_cases hfin : i = 2 ∧ j = 3
    ·obtain ⟨rfl, rfl⟩ := hfin
     obtain ⟨us', T', q1', q2', q3', q4'⟩ := hblk
     refine final (fuel + 1) L a w hL (fun q hq => ?_) hhi hdc hen hdf hI ⟨us', T', q1', q2', q3', q4' rfl⟩ hcnt
     have : q ≤ c ∨ q = c + 1 ∨ q = c + 2 ∨ q = c + 3 ∨ q = c + 4 ∨ q = c + 5 := by omega
     rcases this with h | rfl | rfl | rfl | rfl | rfl
     ·exact hlo q h
     ·rw [l1]; rfl
     ·rw [l2]; rfl
     ·rw [l3]; rfl
     ·rw [l4]; rfl
     ·rw [l5]; rfl
    ·have notall : ¬ (∀ q, q < c + 6 → L.getD q false = true) := fun hall => by
      have a2 := hall (c + 2) (by omega)
      have a5 := hall (c + 5) (by omega)
      rw [l2] at a2; rw [l5] at a5
      simp only [decide_eq_true_eq] at a2 a5
      omega
     refine ⟨fun hnil => absurd (progress2 (e := c + 6) hm hL he fun q hq => by rw [hnil] at hq; cases hq) notall, fun k hk' => ?_⟩
     obtain ⟨hn, o, ho, hp⟩ := (ready_iff hL).1 hk'
     have hkc : c < k := by
      rcases Nat.lt_or_ge c k with h10 | h10
      ·exact h10
      ·rw [hlo k h10] at hn; cases hn
     have hk6 : k < c + 6 := by
      rcases Nat.lt_or_ge k (c + 6) with h10 | h10
      ·exact h10
      ·exact absurd (fun q hq => clo2 hm hdc (hlenL hL) k o ho hp q (barOk_spec hb6 (hltl ho) h10 hq)) notall
     have hkL : k < L.size := by omega
     have hcs' := cnt_set (ops := ops) hL (show k < ops.size by omega) hn
     have upd : ∀ q, q ≠ k → (L.setIfInBounds k true).getD q false = L.getD q false := fun q hq => by rw [getD_set hkL, if_neg hq]
     have updk : (L.setIfInBounds k true).getD k false = true := by rw [getD_set hkL, if_pos rfl]
     have hdc' := dc_set hkL hdc ho hp
     have hlo' : ∀ q, q ≤ c → (L.setIfInBounds k true).getD q false = true := fun q hq => by rw [upd q (by omega)]; exact hlo q hq
     have hhi' : ∀ q, c + 6 ≤ q → (L.setIfInBounds k true).getD q false = false := fun q hq => by rw [upd q (by omega)]; exact hhi q hq
     have Eoff : ∀ i j t, t ∉ [d0, d1, d3, d4] → (E i j).get t = env.get t := fun i j t ht => by rw [hE]; exact p4 _ _ _ _ t ht
     have hblk' := hblk
     obtain ⟨us', T', hg', hsz', hpre', hnw'⟩ := hblk
     unfold wpOpIn
     have hk5 : k = c + 1 ∨ k = c + 2 ∨ k = c + 3 ∨ k = c + 4 ∨ k = c + 5 := by omega
     rcases hk5 with rfl | rfl | rfl | rfl | rfl
     ·-- the element's address
      rw [A.g1]
      simp only
      rw [if_pos (by simp [Region.wanted, A.k1.2])]
      rw [l1] at hn; simp only [decide_eq_false_iff_not] at hn
      obtain rfl : i = 0 := by omega
      have hx := opd hen (x := .tmp d0) (ty := 0) (ax := .t d0) rfl
      have : ev (E 0 j) (.t d0) = Sl := by rw [hE]; exact q0 _ _ _ _
      rw [this, hSl] at hx
      have hix := opd hen A.cix
      rw [eaix (Eoff 0 j), eix] at hix
      refine oper_wpIn2 (K := fun cv w2 => cv = .pointer (some ⟨b, off + xs.length * sz, none⟩) ∧ w2 = w) (fun cl hcl => by rw [A.h1] at hcl; cases hcl)
       (runs_ia (sz := sz) A.h1 A.ht1 (by rw [A.es, A.isz]) hx.slc_inv hix.int_inv (by omega) (by omega) ⟨by simp, rfl⟩) ?_
      rintro cv w2 ⟨rfl, rfl⟩
      refine ih 1 j _ _ _ (by omega) hj (by simp [hL]) hlo' updk ?_ ?_ ?_ ?_ hhi' hdc' ?_ ?_ hI ⟨us', T', hg', hsz', hpre', fun h => (by cases h)⟩ (by omega)
      ·rw [upd _ (by omega), l2]; rfl
      ·rw [upd _ (by omega), l3]
      ·rw [upd _ (by omega), l4]
      ·rw [upd _ (by omega), l5]
      ·rw [A.k1.1]
       refine (hen.put (d := some d1) (by simpa using A.dn.2.1) (v := .ptr b (off + xs.length * sz)) (.ptr _ _)).weak fun t => ?_
       right
       show (E 1 j).get t = ((E 0 j).put d1 _).get t
       rw [hE]
       simp only
       by_cases t1 : t = d1
       ·rw [t1, q1, Env.get_put_same]; simp
       rw [Env.get_put_ne _ _ t1]
       by_cases t4 : t = d4
       ·rw [t4, q4, q4]
       by_cases t3 : t = d3
       ·rw [t3, q3, q3]
       by_cases t0 : t = d0
       ·rw [t0, q0, q0]
       rw [p4 _ _ _ _ t (by simp [t0, t1, t3, t4]), p4 _ _ _ _ t (by simp [t0, t1, t3, t4])]
      ·rw [A.k1.1]; exact hdf
     ·-- the element is filled
      rw [A.g2]
      simp only
      rw [if_pos (by simp [Region.wanted, A.k2.2])]
      have p1 := hp _ (opdef A.g2 ho ▸ A.pr.2.1)
      rw [l1] at p1; simp only [decide_eq_true_eq] at p1
      rw [l2] at hn; simp only [decide_eq_false_iff_not] at hn
      obtain rfl : i = 1 := by omega
      have hx := opd hen (x := .tmp d1) (ty := 0) (ax := .t d1) rfl
      have : ev (E 1 j) (.t d1) = .ptr b (off + xs.length * sz) := by rw [hE]; exact (q1 _ _ _ _).trans (by simp)
      rw [this] at hx
      have hv := opd hen A.cv
      rw [eav (Eoff 1 j)] at hv
      have hvc := hv.cellsOk hvo
      have hvl2 : (a.eval A.v).cells.toList.length = sz := by rw [← hvc.length]; exact hvl
      have hvb : RelL F (ev env av).bare.cells (a.eval A.v).cells.toList := by rw [bare_cells_map]; exact hvc.bare1
      have hpos := one.pos
      refine oper_wpIn2 (K := fun cv w2 => w2 = w.setCells b (off + xs.length * sz) (a.eval A.v).cells.toList) (fun cl hcl => by rw [A.h2] at hcl; cases hcl)
       (runs_st (n := sz) A.h2 (by rw [A.tes, A.isz]) hx.ptr_inv hg' hvl2 (by omega) (hvc.one hvo) fun cv => rfl) ?_
      rintro cv w2 rfl
      rw [A.k2.1, ← hpos]
      have hg2 : (w.setCells b (s0 + pre.length) (a.eval A.v).cells.toList).heap[b]? = some (.cells ⟨setAt us'.toList (s0 + pre.length) (a.eval A.v).cells.toList⟩ T' (0, 0)) := heap_setCells_same _ us'.toList _ w (by simpa using hg')
      have hget := fun q => getElem?_setAt (a.eval A.v).cells.toList us'.toList (s0 + pre.length) q (by rw [hvl2]; simp; omega)
      refine ih 2 j _ _ _ (by omega) hj (by simp [hL]) hlo' ?_ updk ?_ ?_ ?_ hhi' hdc' ?_ hdf (hI.poke hg' (fun q hq => one.free q (by omega)) (hσr j) one.lo _ (by rw [hvl2]; omega)) ⟨_, T', hg2, by simp [length_setAt, hsz'], fun q v hq => ?_, fun _ => ⟨_, hvb, fun q v hq => ?_⟩⟩ (by omega)
      ·rw [upd _ (by omega), l1]; rfl
      ·rw [upd _ (by omega), l3]
      ·rw [upd _ (by omega), l4]
      ·rw [upd _ (by omega), l5]
      ·refine EnvR.weak hen fun t => ?_
       right
       rw [hE]; simp
      ·have hq' : q < pre.length := by
        rcases Nat.lt_or_ge q pre.length with h1 | h1
        ·exact h1
        ·rw [List.getElem?_eq_none h1] at hq; cases hq
       have := hpre' q v hq
       have h2 := hget (s0 + q)
       rw [if_neg (by omega)] at h2
       simpa [h2] using this
      ·have hq' : q < (a.eval A.v).cells.toList.length := by
        rcases Nat.lt_or_ge q (a.eval A.v).cells.toList.length with h1 | h1
        ·exact h1
        ·rw [List.getElem?_eq_none h1] at hq; cases hq
       have h2 := hget (s0 + pre.length + q)
       rw [if_pos (by omega), Nat.add_sub_cancel_left, hq] at h2
       simpa using h2
     ·-- the holder
      rw [A.g3]
      simp only
      rw [if_pos (by simp [Region.wanted, A.k3.2])]
      rw [l3] at hn; simp only [decide_eq_false_iff_not] at hn
      obtain rfl : j = 0 := by omega
      have hx := opd hen A.cp
      rw [eap (Eoff i 0), eap'] at hx
      refine oper_wpIn2 (K := fun cv w2 => cv = .pointer (some ⟨bf, o0, none⟩) ∧ w2 = w) (fun cl hcl => by rw [A.h3] at hcl; cases hcl) (runs_nilck A.h3 hx.ptr_inv ⟨rfl, rfl⟩) ?_
      rintro cv w2 ⟨rfl, rfl⟩
      refine ih i 1 _ _ _ hi (by omega) (by simp [hL]) hlo' ?_ ?_ updk ?_ ?_ hhi' hdc' ?_ ?_ (by rw [hS] at hI ⊢; exact hI) ⟨us', T', hg', hsz', hpre', hnw'⟩ (by omega)
      ·rw [upd _ (by omega), l1]
      ·rw [upd _ (by omega), l2]
      ·rw [upd _ (by omega), l4]; rfl
      ·rw [upd _ (by omega), l5]; rfl
      ·rw [A.k3.1]
       refine (hen.put (d := some d3) (by simpa using A.dn.2.2.1) (v := .ptr bf o0) (.ptr _ _)).weak fun t => ?_
       right
       show (E i 1).get t = ((E i 0).put d3 _).get t
       rw [hE]
       simp only
       by_cases t3 : t = d3
       ·rw [t3, q3, Env.get_put_same]; simp
       rw [Env.get_put_ne _ _ t3]
       by_cases t4 : t = d4
       ·rw [t4, q4, q4]; simp
       by_cases t1 : t = d1
       ·rw [t1, q1, q1]
       by_cases t0 : t = d0
       ·rw [t0, q0, q0]
       rw [p4 _ _ _ _ t (by simp [t0, t1, t3, t4]), p4 _ _ _ _ t (by simp [t0, t1, t3, t4])]
      ·rw [A.k3.1]; exact hdf
     ·-- its field
      rw [A.g4]
      simp only
      rw [if_pos (by simp [Region.wanted, A.k4.2])]
      have p1 := hp _ (opdef A.g4 ho ▸ A.pr.2.2.2.1)
      rw [l3] at p1; simp only [decide_eq_true_eq] at p1
      rw [l4] at hn; simp only [decide_eq_false_iff_not] at hn
      obtain rfl : j = 1 := by omega
      have hx := opd hen (x := .tmp d3) (ty := 0) (ax := .t d3) rfl
      have : ev (E i 1) (.t d3) = .ptr bf o0 := by rw [hE]; exact (q3 _ _ _ _).trans (by simp)
      rw [this] at hx
      refine oper_wpIn2 (K := fun cv w2 => cv = .pointer (some ⟨bf, o0 + fo, none⟩) ∧ w2 = w) (fun cl hcl => by rw [A.h4] at hcl; cases hcl) (runs_fa A.h4 A.hs A.hfd A.hnf A.nf0 hx.ptr_inv ⟨by rw [A.ffo], rfl⟩) ?_
      rintro cv w2 ⟨rfl, rfl⟩
      refine ih i 2 _ _ _ hi (by omega) (by simp [hL]) hlo' ?_ ?_ ?_ updk ?_ hhi' hdc' ?_ ?_ (by rw [hS] at hI ⊢; exact hI) ⟨us', T', hg', hsz', hpre', hnw'⟩ (by omega)
      ·rw [upd _ (by omega), l1]
      ·rw [upd _ (by omega), l2]
      ·rw [upd _ (by omega), l3]; rfl
      ·rw [upd _ (by omega), l5]; rfl
      ·rw [A.k4.1]
       refine (hen.put (d := some d4) (by simpa using A.dn.2.2.2) (v := .ptr bf (o0 + fo)) (.ptr _ _)).weak fun t => ?_
       right
       show (E i 2).get t = ((E i 1).put d4 _).get t
       by_cases t4 : t = d4
       ·rw [t4, Env.get_put_same, hE]; exact (q4 _ _ _ _).trans (by simp)
       rw [Env.get_put_ne (E i 1) _ t4, hE]
       simp only
       by_cases t3 : t = d3
       ·rw [t3, q3, q3]; simp
       by_cases t1 : t = d1
       ·rw [t1, q1, q1]
       by_cases t0 : t = d0
       ·rw [t0, q0, q0]
       rw [p4 _ _ _ _ t (by simp [t0, t1, t3, t4]), p4 _ _ _ _ t (by simp [t0, t1, t3, t4])]
      ·rw [A.k4.1]; exact hdf
     ·-- the list is put back
      rw [A.g5]
      simp only
      rw [if_pos (by simp [Region.wanted, A.k5.2])]
      have p1 := hp _ (opdef A.g5 ho ▸ A.pr.2.2.2.2)
      rw [l4] at p1; simp only [decide_eq_true_eq] at p1
      rw [l5] at hn; simp only [decide_eq_false_iff_not] at hn
      obtain rfl : j = 2 := by omega
      have hx := opd hen (x := .tmp d4) (ty := 0) (ax := .t d4) rfl
      have : ev (E i 2) (.t d4) = .ptr bf (o0 + fo) := by rw [hE]; exact (q4 _ _ _ _).trans (by simp)
      rw [this] at hx
      have hv := opd hen (x := .tmp d0) (ty := 0) (ax := .t d0) rfl
      have : ev (E i 2) (.t d0) = Sl := by rw [hE]; exact q0 _ _ _ _
      rw [this] at hv
      have hv' := hv
      rw [hSl] at hv'
      have hS2 : S 2 = σ := by rw [hS]; rfl
      have hS3 : S 3 = σ.put bf (.cells (setAt vs (o0 + fo) [Sl])) := by rw [hS]; rfl
      rw [hS2] at hI
      obtain ⟨us2, T2, k1, k2⟩ := hI.obj _ _ hσbf
      have hcel : (a.eval (.tmp d0)).cells.toList = [a.eval (.tmp d0)] := by rw [hv'.slc_inv]; rfl
      refine oper_wpIn2 (K := fun cv w2 => w2 = w.setCells bf (o0 + fo) [a.eval (.tmp d0)]) (fun cl hcl => by rw [A.h5] at hcl; cases hcl)
       (runs_st (n := 1) A.h5 A.t5s hx.ptr_inv k1 (by rw [hcel]; rfl) (by rw [k2.length] at hvs; simpa using hvs) (fun u hu => by
        rw [hcel] at hu; simp only [List.mem_singleton] at hu; subst hu; rw [hv'.slc_inv]; rfl) fun cv => by rw [hcel]) ?_
      rintro cv w2 rfl
      rw [A.k5.1]
      refine ih i 3 _ _ _ hi (by omega) (by simp [hL]) hlo' ?_ ?_ ?_ ?_ updk hhi' hdc' ?_ hdf (by rw [hS3]; exact hI.store hσbf (.cons hv .nil)) ⟨us', T', by rw [heap_setCells_ne hbfb.symm]; exact hg', hsz', hpre', hnw'⟩ (by omega)
      ·rw [upd _ (by omega), l1]
      ·rw [upd _ (by omega), l2]
      ·rw [upd _ (by omega), l3]; rfl
      ·rw [upd _ (by omega), l4]; rfl
      ·refine EnvR.weak hen fun t => ?_
       right
       rw [hE]; simp
 have htmps := EnvR.put h2 (d := some d0) (by simpa using A.dn.1) (v := Sl) (cv := .slice (some ⟨b, off, none⟩) (xs.length + 1) cc) (by rw [hSl]; exact .slc _ _ _ _ _)
 refine main fuel 0 0 _ _ _ (by omega) (by omega) (by simp [h5]) (fun q hq => ?_) ?_ ?_ ?_ ?_ ?_ (fun q hq => ?_) (dc_set hic h8 g2 g3) ?_ (by rw [A.k0.1]; exact h3) ?_ ⟨us, T, hgb, rfl, hpre, fun h => (by cases h)⟩ (by omega)
 ·rw [getD_set hic]
  split
  ·rfl
  ·exact h6 q (by omega)
 ·rw [getD_set hic, if_neg (by omega), h7 _ (by omega)]; rfl
 ·rw [getD_set hic, if_neg (by omega), h7 _ (by omega)]; rfl
 ·rw [getD_set hic, if_neg (by omega), h7 _ (by omega)]; rfl
 ·rw [getD_set hic, if_neg (by omega), h7 _ (by omega)]; rfl
 ·rw [getD_set hic, if_neg (by omega), h7 _ (by omega)]; rfl
 ·rw [getD_set hic, if_neg (by omega), h7 _ (by omega)]
 ·rw [A.k0.1]
  refine htmps.weak fun t => ?_
  rw [hE]
  simp only [Nat.not_succ_le_zero, if_false, show ¬ (1 ≤ 0) by omega, show ¬ (2 ≤ 0) by omega]
  by_cases t4 : t = d4
  ·left; rw [t4, q4]
  by_cases t3 : t = d3
  ·left; rw [t3, q3]
  by_cases t1 : t = d1
  ·left; rw [t1, q1]
  right
  rw [Env.get_put_ne _ _ t4, Env.get_put_ne _ _ t3, Env.get_put_ne _ _ t1]; rfl
 ·rw [hS]; simp only [show ¬ (3 ≤ 0) by omega, if_false]; exact one.inv
end
/-! ### The stages behind the first -/
def nextCut (ops : List Oper) (ms : List Nat) (c : Nat) : Nat := ((List.range (ops.length + 1)).find? fun e => decide (c < e) && barOk ops ms e).getD ops.length
def stagesTl (P : Program) (n : Nat) (ops : Array Oper) (ms : List Nat) : Nat → Nat → Option (List AI)
 | 0, _ => none
 | f + 1, c =>
   if c = ops.size then some [] else
   match appfAI P n ops c with
   | some l => if c + 6 ≤ ops.size ∧ barOk ops.toList ms (c + 1) = true ∧ barOk ops.toList ms (c + 6) = true then (stagesTl P n ops ms f (c + 6)).map (l ++ ·) else none
   | none =>
     let e := nextCut ops.toList ms c
     if e = c + 1 then
      if c + 1 ≤ ops.size ∧ barOk ops.toList ms (c + 1) = true then (ops[c]?).bind fun o => (compAI P n ops o).bind fun ai => (stagesTl P n ops ms f (c + 1)).map (ai :: ·) else none
     else if c ≤ e ∧ e ≤ ops.size ∧ barOk ops.toList ms e = true then
      (stageAI P n ops c e).bind fun ais => if ais.all (fun a => a.op.calm) = true then (stagesTl P n ops ms f e).map (ais ++ ·) else none
     else none
theorem stagesTl_sound {P : Program} {w₀ : World} {n : Nat} {ops : Array Oper} {ms : List Nat} {ro : Option Nat} {Q : Exit → Act → World → Prop} {dfs : List Deferred} {F₀ : Gh} {K : Env → AH → Prop} (hm : masksOk ops.toList ms = true)
  (hq : ∀ a w, Left w₀ F₀ n dfs K a w → Q .normal a w) : ∀ (f c : Nat) (tl : List AI) (env : Env) (σ : AH), stagesTl P n ops ms f c = some tl → wpOps P w₀ tl env σ K → SW P w₀ ro n ops Q dfs F₀ c env σ
 | 0, c, tl, env, σ, h, hw => by cases h
 | f + 1, c, tl, env, σ, h, hw => by
   rw [stagesTl] at h
   split at h
   ·rename_i hc
    cases h; subst hc
    exact SW.done hq hw
   ·split at h
    ·rename_i l hl
     split at h
     ·rename_i hc
      obtain ⟨h1, h2, h3⟩ := hc
      simp only [Option.map_eq_some_iff] at h
      obtain ⟨tl', h4, rfl⟩ := h
      obtain ⟨sz, ax, aix, ay, av, ap, d0, d1, d3, d4, fo, nf, rfl, ⟨A⟩⟩ := appfAI_spec hl
      exact SW.appf A hm h1 h2 h3 hw fun env σ hw => stagesTl_sound hm hq f (c + 6) tl' env σ h4 hw
     ·cases h
    ·simp only at h
     split at h
     ·split at h
      ·rename_i hc
       obtain ⟨h1, h2⟩ := hc
       simp only [Option.bind_eq_some_iff, Option.map_eq_some_iff] at h
       obtain ⟨o, ho, ai, hai, tl', h4, rfl⟩ := h
       exact SW.single hm h1 h2 ho hai hw fun env σ hw => stagesTl_sound hm hq f (c + 1) tl' env σ h4 hw
      ·cases h
     ·split at h
      ·rename_i hc
       obtain ⟨h1, h2, h3⟩ := hc
       simp only [Option.bind_eq_some_iff] at h
       obtain ⟨ais, hais, h⟩ := h
       split at h
       ·rename_i hcalm
        simp only [Option.map_eq_some_iff] at h
        obtain ⟨tl', h4, rfl⟩ := h
        refine SW.head hm h1 h2 h3 hais (calm_D (fun env' hw' => hw') ais env hcalm hw) fun env' hw' τ hτ => ?_
        rw [calm_news ais hcalm]
        exact (stagesTl_sound hm hq f _ tl' env' σ h4 hw').forget hτ
       ·cases h
      ·cases h
end Go.AL
namespace Go.AL
open Go.RowKit
set_option linter.unusedVariables false
set_option linter.unusedSectionVars false
set_option linter.unusedSimpArgs false
/-! ### Code compiled -/
def deadOf (dl : List (Nat × List Nat)) (id : Nat) : List Nat := ((dl.find? (·.1 == id)).map (·.2)).getD []
def gapOf (ms : List Nat) (late : List Bool) (i : Nat) : Nat :=
 (List.range i).foldl (fun acc j => if (ms.getD i 0).testBit j then acc else max acc (if late.getD j false then j + 1 else i + 1)) 0
def pickM (n : Nat) (g : List Nat) : Nat := ((List.range (n + 1)).find? fun m => (List.range n).all fun i => decide (i < m) || decide (g.getD i 0 ≤ m)).getD n
def compDraw1 (P : Program) (n : Nat) (dead : List Nat) (ops : Array Oper) : Option AC :=
 let l := ops.toList
 let ms := masks l
 (compOps P n ops l).bind fun ais =>
  let late := lateOf ais
  let m := pickM l.length ((List.range l.length).map (gapOf ms late))
  if P.follows .mixedOrders = true ∧ m ≤ ops.size ∧ drawOk l ms late m = true ∧ headChk (l.take m) (ais.take m) = true then some (.dreg (ais.take m) (ais.drop m) dead) else none
def compDraw2 (P : Program) (n : Nat) (dead : List Nat) (ops : Array Oper) : Option AC :=
 let ms := masks ops.toList
 if P.follows .mixedOrders = true ∧ masksOk ops.toList ms = true then
  let e := nextCut ops.toList ms 0
  match (if e ≤ ops.size ∧ barOk ops.toList ms e = true then (stageAI P n ops 0 e).bind fun hd => (stagesTl P n ops ms (ops.size + 1) e).map fun tl => AC.dreg hd tl dead else none) with
  | some x => some x
  | none => (stagesTl P n ops ms (ops.size + 1) 0).map fun tl => .dreg [] tl dead
 else none
def farCall : AC → Bool
 | .dreg hd _ _ => hd.any fun ai => match ai.op with
   | .call (.t _) _ => true
   | _ => false
 | _ => false
def compDraw (P : Program) (n : Nat) (dead : List Nat) (ops : Array Oper) : Option AC :=
 match compDraw1 P n dead ops with
 | some x => if farCall x = true then (match compDraw2 P n dead ops with | some y => some y | none => some x) else some x
 | none => compDraw2 P n dead ops
theorem compDraw_spec {P : Program} {n : Nat} {dead : List Nat} {ops : Array Oper} {x : AC} (h : compDraw P n dead ops = some x) : compDraw1 P n dead ops = some x ∨ compDraw2 P n dead ops = some x := by
 unfold compDraw at h
 split at h
 ·rename_i y hy
  split at h
  ·split at h
   ·rename_i z hz; exact .inr (hz.trans h)
   ·exact .inl (hy.trans h)
  ·exact .inl (hy.trans h)
 ·exact .inr h
theorem compDraw2_spec {P : Program} {n : Nat} {dead : List Nat} {ops : Array Oper} {x : AC} (h : compDraw2 P n dead ops = some x) :
  P.follows .mixedOrders = true ∧ masksOk ops.toList (masks ops.toList) = true ∧ ∃ hd tl e, x = .dreg hd tl dead ∧ stagesTl P n ops (masks ops.toList) (ops.size + 1) e = some tl ∧
   ((hd = [] ∧ e = 0) ∨ (e ≤ ops.size ∧ barOk ops.toList (masks ops.toList) e = true ∧ stageAI P n ops 0 e = some hd)) := by
 unfold compDraw2 at h
 simp only at h
 split at h
 ·rename_i hc
  refine ⟨hc.1, hc.2, ?_⟩
  split at h
  ·rename_i y hy
   cases h
   split at hy
   ·rename_i hc2
    simp only [Option.bind_eq_some_iff, Option.map_eq_some_iff] at hy
    obtain ⟨hd, h1, tl, h2, rfl⟩ := hy
    exact ⟨hd, tl, _, rfl, h2, .inr ⟨hc2.1, hc2.2, h1⟩⟩
   ·cases hy
  ·simp only [Option.map_eq_some_iff] at h
   obtain ⟨tl, h2, rfl⟩ := h
   exact ⟨[], tl, 0, rfl, h2, .inl ⟨rfl, rfl⟩⟩
 ·cases h
def orBad : Option AC → Option AC
 | some x => some x
 | none => some .bad
theorem orBad_spec {o : Option AC} {x : AC} (h : orBad o = some x) : o = some x ∨ x = .bad := by
 cases o with
 | none => cases h; exact .inr rfl
 | some y => exact .inl h
def comp (P : Program) (n : Nat) (dl : List (Nat × List Nat)) : Code → Option AC
 | .skip => some .skip
 | .region id ops false => orBad ((compOps P n ops ops.toList).map fun l => .reg l (deadOf dl id))
 | .region id ops true => orBad (compDraw P n (deadOf dl id) ops)
 | .seq a b => (comp P n dl a).bind fun x => (comp P n dl b).map fun y => .seq x y
 | .cond c a b => (cOpd P 0 c).bind fun z => (comp P n dl a).bind fun x => (comp P n dl b).map fun y => .cond z x y
 | .block id a => (comp P n dl a).map fun x => .block id x
 | .loop a => (comp P n dl a).map .loop
 | .exit id => some (.exit id)
 | .ret => some .ret
 | .rangeFunc f ps a b => if ps.toList.all (· < n) then (cOpd P 0 f).bind fun z => (comp P n dl a).bind fun x => (comp P n dl b).map fun y => .rangeF z ps.toList x y else none
 | _ => some .bad
inductive Out where
 | fin
 | ret
 | exit (id : Nat)
def Lands (P : Program) (m : Machine) (b : Frame) (cs : List Frame) : Out → Act → World → Prop
 | .fin, a, w => Steps P m (lone (b.atR a []) cs w)
 | .ret, a, w => ∃ k, Steps P m (lone (b.atR a (.code .ret :: k)) cs w)
 | .exit id, a, w => ∃ k, exitTo id k = none ∧ Steps P m (lone (b.atR a (.code (.exit id) :: k)) cs w)
theorem Lands.of_steps {P : Program} {m m' : Machine} {b : Frame} {cs : List Frame} {o : Out} {a : Act} {w : World} (h : Steps P m m') (k : Lands P m' b cs o a w) : Lands P m b cs o a w := by
 cases o with
 | fin => exact h.trans k
 | ret => obtain ⟨t, ht⟩ := k; exact ⟨t, h.trans ht⟩
 | exit id => obtain ⟨t, h1, ht⟩ := k; exact ⟨t, h1, h.trans ht⟩
def WT (ro : Option Nat) (P : Program) (Q : Out → Act → World → Prop) (todo : List Item) (a : Act) (w : World) : Prop :=
 ∀ (b : Frame) (cs : List Frame), b.roundOf = ro → ∃ o a' w', Q o a' w' ∧ Lands P (lone (b.atR a todo) cs w) b cs o a' w'
section
variable {ro : Option Nat} {P : Program} {Q Q' : Out → Act → World → Prop} {todo todo' : List Item} {a a' : Act} {w w' : World}
theorem WT.mono (h : WT ro P Q todo a w) (hq : ∀ o a w, Q o a w → Q' o a w) : WT ro P Q' todo a w :=
 fun b cs hb => let ⟨o, a', w', q, r⟩ := h b cs hb; ⟨o, a', w', hq _ _ _ q, r⟩
theorem WT.steps (hs : ∀ (b : Frame) (cs : List Frame), b.roundOf = ro → Steps P (lone (b.atR a todo) cs w) (lone (b.atR a' todo') cs w')) (h : WT ro P Q todo' a' w') : WT ro P Q todo a w :=
 fun b cs hb => let ⟨o, a'', w'', q, r⟩ := h b cs hb; ⟨o, a'', w'', q, r.of_steps (hs b cs hb)⟩
theorem WT.step (hs : ∀ (b : Frame) (cs : List Frame), b.roundOf = ro → step P (lone (b.atR a todo) cs w) = .next (lone (b.atR a' todo') cs w')) (h : WT ro P Q todo' a' w') : WT ro P Q todo a w :=
 h.steps fun b cs hb => .one (hs b cs hb)
theorem WT.fin (h : Q .fin a w) : WT ro P Q [] a w := fun b cs _ => ⟨.fin, a, w, h, .refl _ _⟩
theorem WT.ret (h : Q .ret a w) : WT ro P Q (.code .ret :: todo) a w := fun b cs _ => ⟨.ret, a, w, h, _, .refl _ _⟩
theorem WT.exit {id : Nat} (hx : exitTo id todo = none) (h : Q (.exit id) a w) : WT ro P Q (.code (.exit id) :: todo) a w := fun b cs _ => ⟨.exit id, a, w, h, _, hx, .refl _ _⟩
theorem WT.code {c : Code} (h : c.wpIn (ring ro) 0 P (fun e a' w' => e = .normal ∧ WT ro P Q todo a' w') a w) : WT ro P Q (.code c :: todo) a w := by
 intro b cs hb
 obtain ⟨e, a', w', ⟨rfl, hq⟩, harr⟩ := h b todo cs hb trivial (ring_room _ _)
 obtain ⟨o, a'', w'', q, r⟩ := hq b cs hb
 exact ⟨o, a'', w'', q, r.of_steps (StepsIn.steps harr)⟩
end
/-! ### The abstract list of things to do -/
inductive AItem where
 | c (a : AC)
 | blk (id : Nat)
 | lp (a : AC)
 | bgn
inductive TR (P : Program) (n : Nat) : List AItem → List Item → Prop
 | nil : TR P n [] []
 | c {dl : List (Nat × List Nat)} {c : Code} {ac : AC} {K : List AItem} {k : List Item} (h : comp P n dl c = some ac) (r : TR P n K k) : TR P n (.c ac :: K) (.code c :: k)
 | blk {id : Nat} {K : List AItem} {k : List Item} (r : TR P n K k) : TR P n (.blk id :: K) (.inBlock id :: k)
 | lp {dl : List (Nat × List Nat)} {c : Code} {ac : AC} {K : List AItem} {k : List Item} (h : comp P n dl c = some ac) (r : TR P n K k) : TR P n (.lp ac :: K) (.inLoop c :: k)
 | bgn {K : List AItem} {k : List Item} (r : TR P n K k) : TR P n (.bgn :: K) (.beginRound :: k)
def exitA (id : Nat) : List AItem → Option (List AItem)
 | .blk id' :: K => if id' = id then some K else exitA id K
 | _ :: K => exitA id K
 | [] => none
theorem TR.exit {P : Program} {n : Nat} {id : Nat} : ∀ {K : List AItem} {k : List Item}, TR P n K k →
  (∀ K', exitA id K = some K' → ∃ k', exitTo id k = some k' ∧ TR P n K' k') ∧ (exitA id K = none → exitTo id k = none)
 | _, _, .nil => ⟨fun _ h => (by cases h), fun _ => rfl⟩
 | _, _, .c _ r => r.exit
 | _, _, .lp _ r => r.exit
 | _, _, .bgn r => r.exit
 | _, _, .blk (id := id') r => by
   by_cases h : id' = id
   ·subst h
    refine ⟨fun K' hK => ?_, fun hn => ?_⟩
    ·simp only [exitA, if_true] at hK; cases hK; exact ⟨_, by simp [exitTo], r⟩
    ·simp [exitA] at hn
   ·refine ⟨fun K' hK => ?_, fun hn => ?_⟩
    ·simp only [exitA, h, if_false] at hK
     obtain ⟨k', h1, h2⟩ := r.exit.1 K' hK
     exact ⟨k', by simp [exitTo, h, h1], h2⟩
    ·simp only [exitA, h, if_false] at hn
     simp [exitTo, h, r.exit.2 hn]
theorem comp_inv {P : Program} {n : Nat} {dl : List (Nat × List Nat)} {c : Code} {ac : AC} (h : comp P n dl c = some ac) :
  match ac with
  | .bad => True
  | .skip => c = .skip
  | .seq x y => ∃ a b, c = .seq a b ∧ comp P n dl a = some x ∧ comp P n dl b = some y
  | .reg l dead => ∃ id ops, c = .region id ops false ∧ compOps P n ops ops.toList = some l ∧ dead = deadOf dl id
  | .dreg h t dead => ∃ id ops, c = .region id ops true ∧ P.follows .mixedOrders = true ∧
    ((∃ ais ms m, compOps P n ops ops.toList = some ais ∧ m ≤ ops.size ∧ drawOk ops.toList ms (lateOf ais) m = true ∧ headChk (ops.toList.take m) (ais.take m) = true ∧ h = ais.take m ∧ t = ais.drop m) ∨
     (masksOk ops.toList (masks ops.toList) = true ∧ ∃ e, stagesTl P n ops (masks ops.toList) (ops.size + 1) e = some t ∧ ((h = [] ∧ e = 0) ∨ (e ≤ ops.size ∧ barOk ops.toList (masks ops.toList) e = true ∧ stageAI P n ops 0 e = some h))))
  | .cond z x y => ∃ o a b, c = .cond o a b ∧ cOpd P 0 o = some z ∧ comp P n dl a = some x ∧ comp P n dl b = some y
  | .block id x => ∃ a, c = .block id a ∧ comp P n dl a = some x
  | .loop x => ∃ a, c = .loop a ∧ comp P n dl a = some x
  | .exit id => c = .exit id
  | .ret => c = .ret
  | .rangeF z ps x y => ∃ f qs a b, c = .rangeFunc f qs a b ∧ ps = qs.toList ∧ (∀ q ∈ ps, q < n) ∧ cOpd P 0 f = some z ∧ comp P n dl a = some x ∧ comp P n dl b = some y := by
 cases c with
 | skip => cases h; rfl
 | region id ops draw =>
   cases draw with
   | true =>
     simp only [comp] at h
     rcases orBad_spec h with h | rfl
     case inr => trivial
     rcases compDraw_spec h with hy | h
     ·simp only [compDraw1, Option.bind_eq_some_iff] at hy
      obtain ⟨ais, h1, h2⟩ := hy
      split at h2
      ·rename_i hc
       obtain ⟨k1, k2, k3, k4⟩ := hc
       cases h2
       exact ⟨_, _, rfl, k1, .inl ⟨_, _, _, h1, k2, k3, k4, rfl, rfl⟩⟩
      ·cases h2
     ·obtain ⟨k1, k2, hd, tl, e, rfl, k3, k4⟩ := compDraw2_spec h
      exact ⟨_, _, rfl, k1, .inr ⟨k2, e, k3, k4⟩⟩
   | false =>
     simp only [comp] at h
     rcases orBad_spec h with h | rfl
     case inr => trivial
     simp only [Option.map_eq_some_iff] at h
     obtain ⟨l, hl, rfl⟩ := h
     exact ⟨_, _, rfl, hl, rfl⟩
 | seq a b =>
   simp only [comp, Option.bind_eq_some_iff, Option.map_eq_some_iff] at h
   obtain ⟨x, hx, y, hy, rfl⟩ := h
   exact ⟨_, _, rfl, hx, hy⟩
 | cond o a b =>
   simp only [comp, Option.bind_eq_some_iff, Option.map_eq_some_iff] at h
   obtain ⟨z, hz, x, hx, y, hy, rfl⟩ := h
   exact ⟨_, _, _, rfl, hz, hx, hy⟩
 | block id a =>
   simp only [comp, Option.map_eq_some_iff] at h
   obtain ⟨x, hx, rfl⟩ := h
   exact ⟨_, rfl, hx⟩
 | loop a =>
   simp only [comp, Option.map_eq_some_iff] at h
   obtain ⟨x, hx, rfl⟩ := h
   exact ⟨_, rfl, hx⟩
 | exit id => cases h; rfl
 | ret => cases h; rfl
 | rangeFunc f qs a b =>
   simp only [comp] at h
   split at h
   ·rename_i hq
    simp only [Option.bind_eq_some_iff, Option.map_eq_some_iff] at h
    obtain ⟨z, hz, x, hx, y, hy, rfl⟩ := h
    exact ⟨_, _, _, _, rfl, rfl, fun q hqm => by rw [List.all_eq_true] at hq; simpa using hq q hqm, hz, hx, hy⟩
   ·cases h
 | _ => cases h; trivial
def marks (ds : List Nat) : List Deferred := ds.map fun r => { target := .collected r, args := #[] }
def AW (P : Program) (w₀ : World) (ro : Option Nat) (n : Nat) (Q : Out → Env → AH → List Nat → Prop) (K : List AItem) (env : Env) (σ : AH) (ds : List Nat) : Prop :=
 ∀ (todo : List Item), TR P n K todo → ∀ (F : Gh) (a : Act) (w : World), EnvR F n env a.tmps → a.defers = marks ds → Inv w₀ F σ w →
   WT ro P (fun o a' w' => ∃ F' env' σ' ds', F.le F' ∧ EnvR F' n env' a'.tmps ∧ a'.defers = marks ds' ∧ Inv w₀ F' σ' w' ∧ Q o env' σ' ds') todo a w
section
variable {P : Program} {w₀ : World} {ro : Option Nat} {n : Nat} {Q : Out → Env → AH → List Nat → Prop} {K : List AItem} {env : Env} {σ : AH} {ds : List Nat}
theorem AW.fin (h : Q .fin env σ ds) : AW P w₀ ro n Q [] env σ ds := by
 intro todo ht F a w he hd hI
 cases ht
 exact .fin ⟨F, env, σ, ds, F.le_refl, he, hd, hI, h⟩
theorem AW.ret (h : Q .ret env σ ds) : AW P w₀ ro n Q (.c .ret :: K) env σ ds := by
 intro todo ht F a w he hd hI
 cases ht with
 | c hc r =>
   have := comp_inv hc
   simp only at this
   subst this
   exact .ret ⟨F, env, σ, ds, F.le_refl, he, hd, hI, h⟩
theorem AW.skip (h : AW P w₀ ro n Q K env σ ds) : AW P w₀ ro n Q (.c .skip :: K) env σ ds := by
 intro todo ht F a w he hd hI
 cases ht with
 | c hc r =>
   have := comp_inv hc
   simp only at this
   subst this
   exact .step (fun _ _ _ => stepR_skip) (h _ r F a w he hd hI)
theorem AW.seq {x y : AC} (h : AW P w₀ ro n Q (.c x :: .c y :: K) env σ ds) : AW P w₀ ro n Q (.c (.seq x y) :: K) env σ ds := by
 intro todo ht F a w he hd hI
 cases ht with
 | c hc r =>
   obtain ⟨u, v, rfl, hu, hv⟩ := comp_inv hc
   exact .step (fun _ _ _ => stepR_seq) (h _ (.c hu (.c hv r)) F a w he hd hI)
theorem AW.cond {z : AX} {x y : AC} {b : Bool} (hz : ev env z = .bool b) (h : AW P w₀ ro n Q (.c (if b then x else y) :: K) env σ ds) : AW P w₀ ro n Q (.c (.cond z x y) :: K) env σ ds := by
 intro todo ht F a w he hd hI
 cases ht with
 | c hc r =>
   obtain ⟨o, u, v, rfl, ho, hu, hv⟩ := comp_inv hc
   have hb : a.eval o = .bool b := by
    have := he.opd (P := P) [o] o (by simp) _ _ ho
    rw [hz] at this
    exact this.bool_inv
   cases b
   ·exact .step (fun _ _ _ => stepR_cond hb) (h _ (.c hv r) F a w he hd hI)
   ·exact .step (fun _ _ _ => stepR_cond hb) (h _ (.c hu r) F a w he hd hI)
theorem AW.block {id : Nat} {x : AC} (h : AW P w₀ ro n Q (.c x :: .blk id :: K) env σ ds) : AW P w₀ ro n Q (.c (.block id x) :: K) env σ ds := by
 intro todo ht F a w he hd hI
 cases ht with
 | c hc r =>
   obtain ⟨u, rfl, hu⟩ := comp_inv hc
   exact .step (fun _ _ _ => stepR_block) (h _ (.c hu (.blk r)) F a w he hd hI)
theorem AW.blk {id : Nat} (h : AW P w₀ ro n Q K env σ ds) : AW P w₀ ro n Q (.blk id :: K) env σ ds := by
 intro todo ht F a w he hd hI
 cases ht with
 | blk r => exact .step (fun _ _ _ => stepR_inBlock) (h _ r F a w he hd hI)
theorem AW.lp {x : AC} (h : AW P w₀ ro n Q (.c x :: .lp x :: K) env σ ds) : AW P w₀ ro n Q (.lp x :: K) env σ ds := by
 intro todo ht F a w he hd hI
 cases ht with
 | lp hc r => exact .step (fun _ _ _ => stepR_inLoop) (h _ (.c hc (.lp hc r)) F a w he hd hI)
theorem AW.loop {x : AC} (h : AW P w₀ ro n Q (.c x :: .lp x :: K) env σ ds) : AW P w₀ ro n Q (.c (.loop x) :: K) env σ ds := by
 intro todo ht F a w he hd hI
 cases ht with
 | c hc r =>
   obtain ⟨u, rfl, hu⟩ := comp_inv hc
   exact .step (fun _ _ _ => stepR_loop) (h _ (.c hu (.lp hu r)) F a w he hd hI)
theorem AW.exit {id : Nat} {K' : List AItem} (hx : exitA id K = some K') (h : AW P w₀ ro n Q K' env σ ds) : AW P w₀ ro n Q (.c (.exit id) :: K) env σ ds := by
 intro todo ht F a w he hd hI
 cases ht with
 | c hc r =>
   have := comp_inv hc
   simp only at this
   subst this
   obtain ⟨k', h1, h2⟩ := r.exit.1 _ hx
   exact .step (fun _ _ _ => stepR_exit h1) (h _ h2 F a w he hd hI)
theorem AW.exitOut {id : Nat} (hx : exitA id K = none) (h : Q (.exit id) env σ ds) : AW P w₀ ro n Q (.c (.exit id) :: K) env σ ds := by
 intro todo ht F a w he hd hI
 cases ht with
 | c hc r =>
   have := comp_inv hc
   simp only at this
   subst this
   exact .exit (r.exit.2 hx) ⟨F, env, σ, ds, F.le_refl, he, hd, hI, h⟩
theorem Env.get_drop_ne (e : Env) (dead : List Nat) (t : Nat) : (e.drop dead).get t = .any ∨ (e.drop dead).get t = e.get t := by
 induction e with
 | nil => exact .inl rfl
 | cons p e ih =>
   obtain ⟨a, x⟩ := p
   by_cases ha : a ∈ dead
   ·have : Env.drop ((a, x) :: e) dead = Env.drop e dead := by simp [Env.drop, ha]
    rw [this]
    by_cases hat : a = t
    ·subst hat
     left
     have : ∀ e : Env, (Env.drop e dead).get a = .any := by
      intro e
      induction e with
      | nil => rfl
      | cons q e ih =>
        obtain ⟨b, y⟩ := q
        by_cases hb : b ∈ dead
        ·have : Env.drop ((b, y) :: e) dead = Env.drop e dead := by simp [Env.drop, hb]
         rw [this]; exact ih
        ·have : Env.drop ((b, y) :: e) dead = (b, y) :: Env.drop e dead := by simp [Env.drop, hb]
         rw [this]
         have hne : b ≠ a := by rintro rfl; exact hb ha
         simp only [Env.get, hne, if_false]; exact ih
     exact this e
    ·simp only [Env.get, hat, if_false]; exact ih
   ·have : Env.drop ((a, x) :: e) dead = (a, x) :: Env.drop e dead := by simp [Env.drop, ha]
    rw [this]
    simp only [Env.get]
    split
    ·exact .inr rfl
    ·exact ih
theorem EnvR.weaken {F : Gh} {env env' : Env} {tmps : Array Value} (h : EnvR F n env tmps) (hs : ∀ t, env'.get t = .any ∨ env'.get t = env.get t) : EnvR F n env' tmps :=
 ⟨h.1, fun t ht => by
  rcases hs t with h1 | h1
  ·exact absurd h1 ht
  ·rw [h1] at ht ⊢; exact h.2 t ht⟩
theorem AW.forget {env' : Env} (hs : ∀ t, env'.get t = .any ∨ env'.get t = env.get t) (h : AW P w₀ ro n Q K env' σ ds) : AW P w₀ ro n Q K env σ ds :=
 fun todo ht F a w he hd hI => h todo ht F a w (he.weaken hs) hd hI
theorem AW.reg {ops : List AI} {dead : List Nat} (h : wpOps P w₀ ops env σ fun env' σ' => AW P w₀ ro n Q K (env'.drop dead) σ' ds) : AW P w₀ ro n Q (.c (.reg ops dead) :: K) env σ ds := by
 intro todo ht F a w he hd hI
 cases ht with
 | c hc r =>
   obtain ⟨id, os, rfl, hos, _⟩ := comp_inv hc
   refine .code (wpIn_region (wpOps_sound os.toList (List.range os.size) ops F env σ a w (fun k => ?_) (by simp) hos he hd hI h ?_))
   ·by_cases hk : k < os.size <;> simp [hk]
   ·rintro a' w' ⟨F', env', σ', h1, h2, h3, h4, h5⟩
    refine ⟨rfl, (h5 _ r F' a' w' (h2.weaken fun t => Env.get_drop_ne _ _ _) h3 h4).mono ?_⟩
    rintro o a'' w'' ⟨F'', e2, s2, d2, g1, g2⟩
    exact ⟨F'', e2, s2, d2, Gh.le_trans h1 g1, g2⟩
theorem AW.dreg {hd tl : List AI} {dead : List Nat}
  (h : wpD P w₀ σ hd env fun env' => ∀ τ, σ.le τ → wpNews σ τ (newsOf hd) [] env' fun env' => wpOps P w₀ tl env' τ fun env'' σ' => AW P w₀ ro n Q K (env''.drop dead) σ' ds) :
  AW P w₀ ro n Q (.c (.dreg hd tl dead) :: K) env σ ds := by
 intro todo ht F a w he hdf hI
 cases ht with
 | c hc r =>
   obtain ⟨id, ops, rfl, hmix, ⟨ais, ms, m, hcomp, hm, hdok, hchk, rfl, rfl⟩ | ⟨hmok, e, htl, hhd⟩⟩ := comp_inv hc
   rotate_left
   ·refine .code (wpIn_region_any hmix ?_)
    have hq : ∀ (Q' : Exit → Act → World → Prop), True := fun _ => trivial
    have hsw : ∀ (Q' : Exit → Act → World → Prop), (∀ a w, Left w₀ F n (marks ds) (fun env'' σ' => AW P w₀ ro n Q K (env''.drop dead) σ' ds) a w → Q' .normal a w) → SW P w₀ ro n ops Q' (marks ds) F 0 env σ := by
     intro Q' hQ'
     rcases hhd with ⟨rfl, rfl⟩ | ⟨h1, h2, h3⟩
     ·exact stagesTl_sound hmok hQ' _ _ _ _ _ htl (h σ σ.le_refl)
     ·refine SW.head hmok (Nat.zero_le _) h1 h2 h3 h fun env' hw τ hτ => ?_
      exact wpNews_monoK (fun env'' hw' => stagesTl_sound hmok hQ' _ _ _ _ _ htl hw') _ _ _ (hw τ hτ)
    refine hsw _ ?_ F a _ ops.size (Array.replicate ops.size false) F.le_refl he hdf hI.drew (by simp) (fun i hi => by omega) (fun i _ => ?_) (fun i o _ hL => ?_) ?_
    ·rintro a' w' ⟨F', env', σ', h1, h2, h3, h4, h5⟩
     refine ⟨rfl, (h5 _ r F' a' w' (h2.weaken fun t => Env.get_drop_ne _ _ _) h3 h4).mono ?_⟩
     rintro o a'' w'' ⟨F'', e2, s2, d2, g1, g2⟩
     exact ⟨F'', e2, s2, d2, Gh.le_trans h1 g1, g2⟩
    ·simp only [Array.getD_eq_getD_getElem?, Array.getElem?_replicate]; split <;> rfl
    ·exfalso
     simp only [Array.getD_eq_getD_getElem?, Array.getElem?_replicate] at hL
     split at hL <;> cases hL
    ·unfold cnt
     exact Nat.le_trans List.countP_le_length (by simp)
   have hdo := drawOk_spec hdok
   have hlen : ais.length = ops.size := by rw [(compOps_at hcomp).1]; simp
   have hok : ∀ ai ∈ ais.take m, ai.op.headOk = true := fun ai hai => by
    obtain ⟨i, hi, hget⟩ := List.getElem_of_mem hai
    have hi' : i < m ∧ i < ais.length := by rw [List.length_take] at hi; omega
    have h1 : (ais.take m)[i]? = some ai := by rw [List.getElem?_eq_getElem hi, hget]
    have hio : i < (ops.toList.take m).length := by rw [List.length_take]; simp; omega
    exact (headChk_at hchk i _ ai (List.getElem?_eq_getElem hio) h1).1
   obtain ⟨vs, envm, hchain, hK⟩ := wpD_chain hok h
   have hctx : DCtx P w₀ n ops ais ms m env σ vs envm := ⟨hdo, hcomp, hchk, hchain⟩
   refine .code (wpIn_region_any hmix ?_)
   refine draw_sound (F₀ := F) (dfs := marks ds) hctx hm hK ?_ ops.size (Array.replicate ops.size false) a _ F σ (fun _ => 0) ?_ ?_
   ·rintro a' w' ⟨F', env', σ', h1, h2, h3, h4, h5⟩
    refine ⟨rfl, (h5 _ r F' a' w' (h2.weaken fun t => Env.get_drop_ne _ _ _) h3 h4).mono ?_⟩
    rintro o a'' w'' ⟨F'', e2, s2, d2, g1, g2⟩
    exact ⟨F'', e2, s2, d2, Gh.le_trans h1 g1, g2⟩
   ·have hf : ∀ i, (Array.replicate ops.size false).getD i false = false := fun i => by
     simp only [Array.getD_eq_getD_getElem?, Array.getElem?_replicate]; split <;> rfl
    exact ⟨F.le_refl, σ.le_refl, hI.drew, hdf, he.1, by simp, fun i o _ hL => (by rw [hf] at hL; cases hL), fun i _ => hf i, fun i _ _ _ _ _ hL => (by rw [hf] at hL; cases hL), fun i _ _ _ _ _ hL => (by rw [hf] at hL; cases hL),
     fun i j _ _ _ _ _ _ hL => (by rw [hf] at hL; cases hL), fun t _ ht => he.2 t ht⟩
   ·unfold cnt
    exact Nat.le_trans List.countP_le_length (by simp)
end
/-! ### Calls out of bodies -/
inductive RV where
 | t (n : Nat)
 | cell (n : Nat) (g : Bool) (sz : Nat)
def compRV (P : Program) : ResultVar → Option RV
 | .tmp t => some (.t t)
 | .cell a t => (szOf P t).bind fun n => (aggOf P t).bind fun g => if g || n == 1 then some (.cell a g n) else none
def compRVs (P : Program) : List ResultVar → Option (List RV)
 | [] => some []
 | r :: rs => (compRV P r).bind fun x => (compRVs P rs).map fun xs => x :: xs
def resW (env : Env) (σ : AH) : List RV → (List AV → Prop) → Prop
 | [], K => K []
 | .t n :: rs, K => resW env σ rs fun vs => K (env.get n :: vs)
 | .cell n g sz :: rs, K => match env.get n with
   | .ptr b o => match σ b with
     | some (.cells vs) => if g then o + sz ≤ vs.length ∧ ((vs.drop o).take sz).all AV.one = true ∧ resW env σ rs fun us => K (.agg ((vs.drop o).take sz) :: us) else o < vs.length ∧ resW env σ rs fun us => K (vs.getD o .any :: us)
     | _ => False
   | _ => False
def one1 : List AV → AV
 | [v] => v
 | vs => .tup vs
def AH.delAll (σ : AH) : List Nat → AH
 | [] => σ
 | b :: bs => (σ.del b).delAll bs
def atEnd (rvs : List RV) (R : AV → AH → Prop) : Out → Env → AH → List Nat → Prop
 | .exit _, _, _, _ => False
 | _, env, σ, ds => ds.Nodup ∧ (∀ b ∈ ds, σ b = some .marks) ∧ resW env (σ.delAll ds) rvs fun vs => R (one1 vs) (σ.delAll ds)
section
variable {P : Program} {w₀ : World} {F : Gh} {σ : AH} {w : World}
theorem Inv.kill (h : Inv w₀ F σ w) {b : Nat} {o : AObj} (hb : σ b = some o) (ho : ∀ i, F b i = none) (w' : World)
  (he : ∀ c, c ≠ b → w'.heap[c]? = w.heap[c]?) (hos : w'.os = w.os) (htape : w'.tape = w.tape) (hout : w'.output = w.output) (hsz : w'.heap.size = w.heap.size) : Inv w₀ F (σ.del b) w' := by
 have hn := h.new b o hb
 refine ⟨fun c i v hv => ?_, fun c x hc => ?_, fun c x hc => ?_, fun c x hc => ?_, ?_⟩
 ·have hne : c ≠ b := by rintro rfl; rw [ho] at hv; cases hv
  have := h.imm _ _ _ hv
  simpa [World.cell?, he c hne] using this
 ·unfold AH.del at hc; split at hc
  ·cases hc
  ·rename_i hne; exact (h.obj c x hc).congr (he c hne)
 ·unfold AH.del at hc; split at hc
  ·cases hc
  ·exact h.apart c x hc
 ·unfold AH.del at hc; split at hc
  ·cases hc
  ·exact h.new c x hc
 ·exact h.base.trans ⟨hos, htape, hout, by omega, fun k hk => he k (by omega)⟩
theorem run_takeDeferred {b : Nat} (h : w.heap[b]? = some (.deferred (some []))) : (Instr.takeDeferred b).run P w = .ok [] { w with heap := w.heap.setIfInBounds b (.deferred none) } := by
 simp [Instr.takeDeferred, getObj, setObj, Sem.run, h]
theorem heap_set_ne {b c : Nat} (o : Obj) (h : c ≠ b) : (w.heap.setIfInBounds b o)[c]? = w.heap[c]? := by
 rw [Array.getElem?_setIfInBounds_ne (Ne.symm h)]
theorem takeMarks : ∀ (ds : List Nat) (σ : AH) (w : World) (fr : Frame) (cs : List Frame), ds.Nodup → (∀ b ∈ ds, σ b = some .marks) → Inv w₀ F σ w → fr.mode = .returning → fr.defers = marks ds →
  ∃ w', Steps P (lone fr cs w) (lone { fr with defers := [] } cs w') ∧ Inv w₀ F (σ.delAll ds) w'
 | [], σ, w, fr, cs, _, _, hI, hm, hd => ⟨w, by rw [show ({ fr with defers := [] } : Frame) = fr by rw [← show fr.defers = [] from hd]]; exact .refl _ _, hI⟩
 | b :: ds, σ, w, fr, cs, hnd, hall, hI, hm, hd => by
   have hb := hall b (by simp)
   have hh : w.heap[b]? = some (.deferred (some [])) := hI.obj _ _ hb
   have hI' : Inv w₀ F (σ.del b) { w with heap := w.heap.setIfInBounds b (.deferred none) } :=
    hI.kill hb (hI.apart _ _ hb) _ (fun c hc => heap_set_ne _ hc) rfl rfl rfl (by simp)
   have hnd' := List.nodup_cons.1 hnd
   have h1 := step_collected (P := P) (fr := fr) (cs := cs) (d := { target := .collected b, args := #[] }) (ds := marks ds) (by rw [hm]; simp) (by rw [hd]; rfl) rfl (run_takeDeferred hh)
   obtain ⟨w', h2, h3⟩ := takeMarks ds (σ.del b) _ { fr with defers := [] ++ marks ds } cs hnd'.2 (fun c hc => by
    have hne : c ≠ b := by rintro rfl; exact hnd'.1 hc
    simp only [AH.del, hne, if_false]; exact hall c (by simp [hc])) hI' hm rfl
   exact ⟨w', Steps.trans (.one h1) h2, h3⟩
def rvRun (tmps : Array Value) : ResultVar → Sem Value
 | .tmp t => pure (tmps.getD t undef)
 | .cell a t => do loadVar t (← asAddr (tmps.getD a undef))
theorem run_resW {n : Nat} {env : Env} {tmps : Array Value} (he : EnvR F n env tmps) (hI : Inv w₀ F σ w) : ∀ {rs : List ResultVar} {rvs : List RV} {K : List AV → Prop}, compRVs P rs = some rvs → resW env σ rvs K →
  ∃ vs cvs, K vs ∧ RelL F vs cvs ∧ (rs.mapM (rvRun tmps)).run P w = .ok cvs w
 | [], _, K, h, hK => by cases h; exact ⟨[], [], hK, .nil, by simp⟩
 | r :: rs, rvs, K, h, hK => by
   simp only [compRVs, Option.bind_eq_some_iff, Option.map_eq_some_iff] at h
   obtain ⟨x, hx, xs, hxs, rfl⟩ := h
   have hget : ∀ t, Rel F (env.get t) (tmps.getD t undef) := fun t => by
    by_cases ht : env.get t = .any
    ·rw [ht]; exact .any _
    ·obtain ⟨v, h1, h2⟩ := he.2 t ht
     rw [show tmps.getD t undef = v by simp [Array.getD_eq_getD_getElem?, h1]]; exact h2
   cases r with
   | tmp t =>
     cases hx
     obtain ⟨vs, cvs, h1, h2, h3⟩ := run_resW he hI hxs hK
     exact ⟨_, _, h1, .cons (hget t) h2, by rw [List.mapM_cons]; simp only [rvRun, Sem.run_bind, Sem.run_pure, Result.andThen_ok, h3]⟩
   | cell a t =>
     simp only [compRV, Option.bind_eq_some_iff] at hx
     obtain ⟨n', hn, g, hg, hx⟩ := hx
     split at hx
     ·rename_i hgn
      cases hx
      have hgn' : g = true ∨ n' = 1 := by simpa using hgn
      simp only [resW] at hK
      split at hK
      ·rename_i b off hp
       have hrel := hget a
       rw [hp] at hrel
       have hv := hrel.ptr_inv
       split at hK
       ·rename_i vs hσ
        obtain ⟨cs, T, hh, hr⟩ := hI.obj _ _ hσ
        have hle : off + n' ≤ vs.length := by
         cases g with
         | true => exact hK.1
         | false => have := hgn'.resolve_left (by simp); have h2 := hK.1; simp only [Bool.false_eq_true, if_false] at hK; omega
        have hlen : ((cs.drop off).take n').length = n' := by rw [List.length_take, List.length_drop, ← hr.length]; omega
        have hrun := run_loadVar (P := P) (w := w) hn hg hlen (b := b) (off := off) (fun i u hu => by
         rw [List.getElem?_take] at hu
         split at hu
         ·rw [List.getElem?_drop] at hu; simp [World.cell?, hh, hu]
         ·cases hu) hgn'
        cases g with
        | true =>
          obtain ⟨vs', cvs, h1, h2, h3⟩ := run_resW he hI hxs hK.2.2
          refine ⟨_, _, h1, .cons (.agg hK.2.1 (hr.dropTake off n')) h2, ?_⟩
          rw [List.mapM_cons]
          simp only [rvRun, Sem.run_bind, hv, asAddr, Sem.run_pure, Result.andThen_ok, hrun, h3, if_true]
        | false =>
          have h1' : n' = 1 := hgn'.resolve_left (by simp)
          subst h1'
          simp only [Bool.false_eq_true, if_false] at hK
          obtain ⟨vs', cvs, h1, h2, h3⟩ := run_resW he hI hxs hK.2
          refine ⟨_, ((cs.drop off).take 1).headD undef :: cvs, h1, .cons ?_ h2, ?_⟩
          ·have h4 := (hr.dropTake off 1).headD (by rw [List.length_take, List.length_drop]; omega)
           rw [show ((vs.drop off).take 1).headD AV.any = vs.getD off AV.any by
            rw [List.headD_eq_head?_getD, List.head?_take, List.head?_drop, List.getD_eq_getElem?_getD]; simp] at h4
           exact h4
          ·rw [List.mapM_cons]
           simp only [rvRun, Sem.run_bind, hv, asAddr, Sem.run_pure, Result.andThen_ok, hrun, h3, Bool.false_eq_true, if_false]
       ·exact hK.elim
      ·exact hK.elim
     ·cases hx
theorem RelL.one1 {vs : List AV} {cvs : List Value} (h : RelL F vs cvs) : Rel F (AL.one1 vs) (if h : (⟨cvs⟩ : Array Value).size = 1 then (⟨cvs⟩ : Array Value)[0] else .tuple ⟨cvs⟩) := by
 match vs, cvs, h with
 | [], [], _ => exact .tup .nil
 | [v], [cv], .cons h _ => exact h
 | v :: v' :: vs, cv :: cv' :: cvs, h => 
   rw [dif_neg (by simp)]
   exact .tup h
def argEnv : Nat → List AV → Env
 | _, [] => []
 | i, v :: vs => (i, v) :: argEnv (i + 1) vs
theorem argEnv_get : ∀ (i : Nat) (vs : List AV) (t : Nat), (argEnv i vs).get t = if i ≤ t then vs.getD (t - i) .any else .any
 | i, [], t => by simp [argEnv, Env.get]
 | i, v :: vs, t => by
   simp only [argEnv, Env.get]
   by_cases h : i = t
   ·subst h; simp
   ·rw [if_neg h, argEnv_get (i + 1) vs t]
    by_cases h1 : i ≤ t
    ·rw [if_pos h1, if_pos (by omega), show t - i = (t - (i + 1)) + 1 by omega]; rfl
    ·rw [if_neg h1, if_neg (by omega)]
theorem acall_of {f : FuncId} {fn : Func} {c : Code} {ac : AC} {dl : List (Nat × List Nat)} {rvs : List RV} {args : List AV} {R : AV → AH → Prop}
  (hf : P.funcs[f]? = some fn) (hb : fn.body = some c) (hname : (fn.name == "runtime.NumGoroutine") = false) (hc : comp P fn.ntmps dl c = some ac) (hr : compRVs P fn.results.toList = some rvs) (hl : args.length ≤ fn.ntmps)
  (h : AW P w₀ none fn.ntmps (atEnd rvs R) [.c ac] (argEnv 0 args) σ []) : ACall P w₀ f args σ R := by
 refine ⟨⟨fn, hf, by rw [hb]; rfl, hname⟩, fun F vs w hrel hI cs => ?_⟩
 let b : Frame := { (default : Frame) with fn := f, kind := .normal, roundOf := none }
 have henter : Frame.enter P f ⟨vs⟩ .normal = b.atR { tmps := (⟨vs⟩ : Array Value) ++ Array.replicate (fn.ntmps - (⟨vs⟩ : Array Value).size) undef, defers := [] } [.code c] := by
  simp [Frame.enter, Frame.atR, hf, hb, b]
 have hlv : vs.length = args.length := hrel.length.symm
 have hE : EnvR F fn.ntmps (argEnv 0 args) ((⟨vs⟩ : Array Value) ++ Array.replicate (fn.ntmps - (⟨vs⟩ : Array Value).size) undef) := by
  refine ⟨by simp; omega, fun t ht => ?_⟩
  rw [argEnv_get] at ht ⊢
  simp only [Nat.zero_le, if_true, Nat.sub_zero] at ht ⊢
  by_cases htl : t < args.length
  ·obtain ⟨v, hv, hr⟩ := hrel.get (i := t) (x := args[t]) (by simp [htl])
   refine ⟨v, ?_, by simpa [List.getD_eq_getElem?_getD, htl] using hr⟩
   rw [Array.getElem?_append_left (by simp; omega)]
   simpa using hv
  ·exact absurd (by simp [List.getD_eq_getElem?_getD, List.getElem?_eq_none (Nat.le_of_not_lt htl)]) ht
 obtain ⟨o, a', w', ⟨F', env', σ', ds', h1, h2, h3, h4, h5⟩, hland⟩ := h _ (.c hc .nil) F { tmps := (⟨vs⟩ : Array Value) ++ Array.replicate (fn.ntmps - (⟨vs⟩ : Array Value).size) undef, defers := [] } w hE rfl hI b cs rfl
 rw [← henter] at hland
 -- the frame returns
 have hret : ∃ k, Steps P (lone (Frame.enter P f ⟨vs⟩ .normal) cs w) (lone { b.atR a' k with mode := .returning } cs w') ∧ ds'.Nodup ∧ (∀ b ∈ ds', σ' b = some .marks) ∧ resW env' (σ'.delAll ds') rvs fun vs => R (one1 vs) (σ'.delAll ds') := by
  cases o with
  | fin => exact ⟨[], Steps.trans hland (.one (stepR_end rfl)), h5⟩
  | ret => obtain ⟨k, hk⟩ := hland; exact ⟨_, Steps.trans hk (.one (stepR_ret rfl)), h5⟩
  | exit id => exact h5.elim
 obtain ⟨k, hsteps, hnd, hall, hres⟩ := hret
 obtain ⟨w'', hs2, hI2⟩ := takeMarks (P := P) ds' σ' w' { b.atR a' k with mode := .returning } cs hnd hall h4 rfl h3
 obtain ⟨vs', cvs, hK, hrl, hrun⟩ := run_resW (P := P) h2 hI2 hr hres
 refine ⟨.returned _, w'', { ({ b.atR a' k with mode := .returning } : Frame) with defers := [] }, ⟨_, rfl, F', _, _, h1, hrl.one1, hI2, hK⟩, Steps.trans hsteps hs2, rfl, rfl, rfl, rfl, fn, hf, ?_⟩
 have e1 : results fn a'.tmps = (do let vs ← fn.results.mapM (rvRun a'.tmps); pure (if h : vs.size = 1 then vs[0] else .tuple vs)) := by
  have : (fun r : ResultVar => (match r with | .tmp t => pure (a'.tmps.getD t undef) | .cell a t => do loadVar t (← asAddr (a'.tmps.getD a undef)) : Sem Value)) = rvRun a'.tmps := by
   funext r; cases r <;> rfl
  rw [← this]; rfl
 show (results fn a'.tmps).run P w'' = _
 rw [e1, Array.mapM_eq_mapM_toList]
 simp only [Sem.run_bind, Sem.run_map, hrun, Result.andThen_ok, Sem.run_pure]
end
end Go.AL
namespace Go.AL
open Go.RowKit
set_option linter.unusedVariables false
set_option linter.unusedSectionVars false
set_option linter.unusedSimpArgs false
def Env.puts : Env → List Nat → List AV → Env
 | e, p :: ps, v :: vs => Env.puts (e.put p v) ps vs
 | e, _, _ => e
section
variable {P : Program} {w₀ : World} {F : Gh} {σ : AH} {w : World} {n : Nat} {env : Env}
theorem EnvR.puts : ∀ {ps : List Nat} {vs : List AV} {cvs : List Value} {env : Env} {tmps : Array Value}, EnvR F n env tmps → (∀ p ∈ ps, p < n) → RelL F vs cvs →
  EnvR F n (env.puts ps vs) ((ps.zip cvs).foldl (fun tmps (p : Nat × Value) => tmps.setIfInBounds p.1 p.2) tmps)
 | [], vs, cvs, env, tmps, h, _, _ => by
   have e : Env.puts env [] vs = env := by cases vs <;> rfl
   rw [e]; exact h
 | p :: ps, [], [], env, tmps, h, _, _ => h
 | p :: ps, v :: vs, cv :: cvs, env, tmps, h, hp, .cons hv hvs => by
   have h1 := EnvR.put (a := { tmps := tmps, defers := [] }) h (d := some p) (by simpa using hp p (by simp)) hv
   exact EnvR.puts (ps := ps) h1 (fun q hq => hp q (by simp [hq])) hvs
def IsLoop (P : Program) (σ : AH) (l : Nat) (st : LoopState) (n : Nat) (env : Env) (ps : List Nat) (asg body : AC) : Prop :=
 ∃ fn ra rb df dl, σ l = some (.loop st none fn n env ps ra rb df) ∧ comp P n dl ra = some asg ∧ comp P n dl rb = some body
def setLoop (σ : AH) (l : Nat) (st : LoopState) (pend : Option Code) : AH :=
 match σ l with
 | some (.loop _ _ fn n env ps ra rb df) => σ.put l (.loop st pend fn n env ps ra rb df)
 | _ => σ
def isLoopNow (σ : AH) (l : Nat) : Prop := ∃ st pend fn n env ps ra rb df, σ l = some (.loop st pend fn n env ps ra rb df)
theorem Inv.setLoop (h : Inv w₀ F σ w) {l : Nat} {st : LoopState} {pend : Option Code} {fn : FuncId} {n : Nat} {env : Env} {ps : List Nat} {ra rb : Code} {df : Nat}
  (hl : σ l = some (.loop st pend fn n env ps ra rb df)) (st' : LoopState) (pend' : Option Code) :
  ∃ r : Loop, w.heap[l]? = some (.loop r) ∧ r.state = st ∧ r.pending = pend ∧ r.fn = fn ∧ r.params = ⟨ps⟩ ∧ r.assign = ra ∧ r.body = rb ∧ r.defers = df ∧ EnvR F n env r.tmps ∧
    Inv w₀ F (AL.setLoop σ l st' pend') (w.putObj l (.loop { r with state := st', pending := pend' })) := by
 obtain ⟨tmps, he, hh⟩ := h.obj _ _ hl
 refine ⟨_, hh, rfl, rfl, rfl, rfl, rfl, rfl, rfl, he, ?_⟩
 have e : AL.setLoop σ l st' pend' = σ.put l (.loop st' pend' fn n env ps ra rb df) := by simp [AL.setLoop, hl]
 rw [e]
 have hlt := (h.obj _ _ hl).lt
 exact h.setObj hl (h.apart _ _ hl) _ _ (fun c hc => heap_set_ne _ hc) rfl rfl rfl (by simp [World.putObj]) ⟨tmps, he, by simp [World.putObj, hlt]⟩
def roundEnd (l : Nat) (R : AV → AH → Prop) : Out → Env → AH → List Nat → Prop
 | .fin, _, σ, ds => isLoopNow σ l ∧ R (.bool true) (setLoop σ l .ready none)
 | .ret, _, σ, ds => isLoopNow σ l ∧ R (.bool false) (setLoop σ l .done (some .ret))
 | .exit id, _, σ, ds => isLoopNow σ l ∧ R (.bool false) (setLoop σ l .done (some (.exit id)))
theorem AW.bgn {l : Nat} {Q : Out → Env → AH → List Nat → Prop} {K : List AItem} {ds : List Nat} {pend : Option Code} {fn : FuncId} {n' : Nat} {env' : Env} {ps : List Nat} {ra rb : Code} {df : Nat}
  (hl : σ l = some (.loop .ready pend fn n' env' ps ra rb df)) (h : AW P w₀ (some l) n Q K env (setLoop σ l .busy pend) ds) : AW P w₀ (some l) n Q (.bgn :: K) env σ ds := by
 intro todo ht F a w he hd hI
 cases ht with
 | bgn r =>
   obtain ⟨rl, h1, h2, h3, _, _, _, _, _, _, h4⟩ := hI.setLoop hl .busy pend
   have hb := run_beginRound (P := P) h1 h2
   rw [show ({ rl with state := .busy } : Loop) = { rl with state := .busy, pending := pend } by rw [← h3]] at hb
   exact .step (fun b cs hro => stepR_beginRound hro hb) (h _ r F a _ he hd h4)
theorem ayield_of {l : Nat} {ps : List Nat} {asg body : AC} {args : List AV} {R : AV → AH → Prop} (hl : IsLoop P σ l .ready n env ps asg body) (hps : ∀ p ∈ ps, p < n) (hlen : args.length = ps.length)
  (h : AW P w₀ (some l) n (roundEnd l R) [.c asg, .bgn, .c body] (env.puts ps args) σ []) : AYield P w₀ l args σ R := by
 intro F vs w hrel hI
 obtain ⟨fn, ra, rb, df, dl, hσ, ha, hb⟩ := hl
 obtain ⟨r, h1, h2, h3, h4, h5, h6, h7, h8, h9, _⟩ := hI.setLoop hσ .busy none
 have hsz : (⟨vs⟩ : Array Value).size = r.params.size := by rw [h5]; simpa [← hrel.length] using hlen
 rw [run_yield (P := P) h1 hsz]
 show RoundIn Fence.wide 0 P l r.fn _ r.assign r.body w _
 refine ⟨trivial, fun c cs _ => ?_⟩
 have hE : EnvR F n (env.puts ps args) ((r.params.zip (⟨vs⟩ : Array Value)).foldl (fun tmps (t, a) => tmps.setIfInBounds t a) r.tmps) := by
  rw [h5, ← Array.foldl_toList, Array.toList_zip]; exact h9.puts hps hrel
 let b : Frame := { (default : Frame) with fn := r.fn, kind := .normal, roundOf := some l }
 have hb0 : Frame.round l r.fn ((r.params.zip (⟨vs⟩ : Array Value)).foldl (fun tmps (t, a) => tmps.setIfInBounds t a) r.tmps) r.assign r.body .normal =
   b.atR { tmps := (r.params.zip (⟨vs⟩ : Array Value)).foldl (fun tmps (t, a) => tmps.setIfInBounds t a) r.tmps, defers := [] } [.code r.assign, .beginRound, .code r.body] := by
  simp [Frame.round, Frame.atR, b]
 rw [h6, h7] at hb0
 obtain ⟨o, a', w', ⟨F', env', σ', ds', g1, g2, g3, g4, g5⟩, hland⟩ := h [.code ra, .beginRound, .code rb] (.c ha (.bgn (.c hb .nil))) F { tmps := (r.params.zip (⟨vs⟩ : Array Value)).foldl (fun tmps (t, a) => tmps.setIfInBounds t a) r.tmps, defers := [] } w hE rfl hI b (c :: cs) rfl
 rw [h6, h7, hb0]
 cases o with
 | fin =>
   obtain ⟨⟨st, pend', fn', n', env2, ps2, ra2, rb2, df2, hσ'⟩, hR⟩ := g5
   obtain ⟨r', k1, _, _, _, _, _, _, _, _, k2⟩ := g4.setLoop hσ' .ready none
   refine ⟨.returned (.bool true), _, ⟨_, rfl, F', .bool true, _, g1, .bool _, k2, hR⟩, ?_⟩
   exact (stepsIn_wide.2 (Steps.trans hland (.one (stepR_round_end rfl rfl (run_endRound none k1)))))
 | ret =>
   obtain ⟨⟨st, pend', fn', n', env2, ps2, ra2, rb2, df2, hσ'⟩, hR⟩ := g5
   obtain ⟨r', k1, _, _, _, _, _, _, _, _, k2⟩ := g4.setLoop hσ' .done (some .ret)
   obtain ⟨k, hland⟩ := hland
   refine ⟨.returned (.bool false), _, ⟨_, rfl, F', .bool false, _, g1, .bool _, k2, hR⟩, ?_⟩
   exact (stepsIn_wide.2 (Steps.trans hland (.one (stepR_round_ret rfl rfl (run_endRound (some .ret) k1)))))
 | exit id =>
   obtain ⟨⟨st, pend', fn', n', env2, ps2, ra2, rb2, df2, hσ'⟩, hR⟩ := g5
   obtain ⟨r', k1, _, _, _, _, _, _, _, _, k2⟩ := g4.setLoop hσ' .done (some (.exit id))
   obtain ⟨k, hx, hland⟩ := hland
   refine ⟨.returned (.bool false), _, ⟨_, rfl, F', .bool false, _, g1, .bool _, k2, hR⟩, ?_⟩
   exact (stepsIn_wide.2 (Steps.trans hland (.one (stepR_round_exit rfl rfl hx (run_endRound (some (.exit id)) k1)))))
def afterRange (P : Program) (w₀ : World) (ro : Option Nat) (n : Nat) (Q : Out → Env → AH → List Nat → Prop) (K : List AItem) (env : Env) (ds : List Nat) (l : Nat) (σ : AH) : Prop :=
 match σ l with
 | some (.loop st pend _ _ _ _ _ _ _) => st ≠ .busy ∧ match pend with
   | none => AW P w₀ ro n Q K env (σ.del l) ds
   | some .ret => AW P w₀ ro n Q (.c .ret :: K) env (σ.del l) ds
   | some (.exit id) => AW P w₀ ro n Q (.c (.exit id) :: K) env (σ.del l) ds
   | _ => False
 | _ => False
theorem AW.rangeF {z : AX} {ps : List Nat} {asg body : AC} {Q : Out → Env → AH → List Nat → Prop} {K : List AItem} {ds : List Nat} {g : FuncId} {first cap : List AV} (hz : ev env z = .fn (.func g) first cap)
  (h : ∀ (b l : Nat), σ b = none → σ l = none → l ≠ b → ∀ σ', σ' b = some .marks → (∀ c, c ≠ b → c ≠ l → σ' c = σ c) → IsLoop P σ' l .ready n env ps asg body → (∀ p ∈ ps, p < n) →
   ACall P w₀ g (first ++ [.fn (.yield l) [] []] ++ cap) σ' fun _ τ => afterRange P w₀ none n Q K env (b :: ds) l τ) :
  AW P w₀ none n Q (.c (.rangeF z ps asg body) :: K) env σ ds := by
 intro todo ht F a w he hd hI
 cases ht with
 | @c dl _ _ _ kk hc r =>
   obtain ⟨f, qs, ra, rb, rfl, hqs, hps, hf, ha, hb⟩ := comp_inv hc
   have hrel := he.opd (P := P) [f] f (by simp) _ _ hf
   rw [hz] at hrel
   obtain ⟨us, vs, hv, hu, hcv⟩ := hrel.fn_inv
   intro b cs hro
   have he1 := run_enterLoop_outer (P := P) (w := w) b.fn a.tmps qs ra rb
   have hI1 : Inv w₀ F (σ.put w.heap.size .marks) (w.alloc (.deferred (some []))) := hI.allocObj _ .marks (heap_alloc_new _ _)
   have hl2 : (w.alloc (.deferred (some []))).heap.size = w.heap.size + 1 := World.size_alloc _ _
   have hI2 := hI1.allocObj (.loop { state := .ready, pending := none, fn := b.fn, tmps := a.tmps, params := qs, assign := ra, body := rb, defers := w.heap.size })
    (.loop .ready none b.fn n env ps ra rb w.heap.size) ⟨a.tmps, he, by rw [heap_alloc_new, hqs]⟩
   rw [hl2] at hI2
   have hfresh1 : σ w.heap.size = none := hI.fresh
   have hfresh2 : σ (w.heap.size + 1) = none := by
    cases hs : σ (w.heap.size + 1) with
    | none => rfl
    | some o => have := (hI.obj _ _ hs).lt; omega
   obtain ⟨⟨fn, hfn, hbody, hname⟩, hcall⟩ := h w.heap.size (w.heap.size + 1) hfresh1 hfresh2 (by omega) ((σ.put w.heap.size .marks).put (w.heap.size + 1) (.loop .ready none b.fn n env ps ra rb w.heap.size)) (by rw [AH.put_ne _ _ (by omega), AH.put_same]) (fun c h1 h2 => by rw [AH.put_ne _ _ h2, AH.put_ne _ _ h1])
    ⟨_, _, _, _, _, AH.put_same _ _ _, ha, hb⟩ hps
   have hb' : fn.body.isNone = false := by cases h : fn.body with | none => rw [h] at hbody; cases hbody | some _ => rfl
   have hres : ∀ w₁, (resolve a.eval (rangeCall f (w.heap.size + 1)) 0).run P w₁ = .ok { target := .fn (.func g) ⟨vs⟩, args := ⟨us⟩ ++ #[.func (.yield (w.heap.size + 1)) #[] #[]] } w₁ := by
    intro w₁
    simp only [resolve, Sem.run_bind, hv, Deferred.ofValue, Sem.run_pure]
    simp [Act.eval]
   have hinv : ∀ w₁, (invoke (.fn (.func g) ⟨vs⟩) (⟨us⟩ ++ #[.func (.yield (w.heap.size + 1)) #[] #[]])).run P w₁ = .ok (.enter g ⟨us ++ [.func (.yield (w.heap.size + 1)) #[] #[]] ++ vs⟩) w₁ := by
    intro w₁
    have hname' : ¬ fn.name = "runtime.NumGoroutine" := by simpa using hname
    have hb2 : ¬ fn.body = none := by intro h; rw [h] at hb'; cases hb'
    simp only [invoke, callFunc]
    simp [Sem.run, program, hfn]
    rw [if_neg hname', if_neg hb2]
   have henter := stepR_rangeFunc (P := P) (b := b) (a := a) (k := kk) (cs := cs) (w := w) (by rw [hro]; exact he1) (hres _) (hinv _)
   obtain ⟨e, w3, fr, ⟨cv, rfl, F', v, σ', g1, g2, g3, g4⟩, hsteps, hfr, hleave⟩ := hcall F _ _ ((hu.append (.cons (.fn _ .nil .nil) .nil)).append hcv) hI2 (b.atR { a with defers := [{ target := .collected w.heap.size, args := #[] }] ++ a.defers } (.inRangeFunc (w.heap.size + 1) :: kk) :: cs)
   have hback := step_leave_returned (P := P) (c := b.atR { a with defers := [{ target := .collected w.heap.size, args := #[] }] ++ a.defers } (.inRangeFunc (w.heap.size + 1) :: kk)) (cs := cs) hleave
   rw [finish_atR_inRangeFunc] at hback
   simp only [afterRange] at g4
   split at g4
   ·rename_i st pend fn2 n2 env2 ps2 ra2 rb2 df2 hσ'
    obtain ⟨hst, g4⟩ := g4
    obtain ⟨r', k1, k2, k3, _, _, _, _, _, _, _⟩ := g3.setLoop hσ' .exhausted pend
    have hend := run_endLoop (P := P) k1 (by rw [k2]; exact hst)
    have hlt := (g3.obj _ _ hσ').lt
    have hI4 : Inv w₀ F' (σ'.del (w.heap.size + 1)) (w3.putObj (w.heap.size + 1) (.loop { r' with state := .exhausted })) :=
     g3.kill hσ' (g3.apart _ _ hσ') _ (fun c hc => heap_set_ne _ hc) rfl rfl rfl (by simp [World.putObj])
    have hs : Steps P (lone (b.atR a (.code (.rangeFunc f qs ra rb) :: kk)) cs w) (lone (b.atR { a with defers := [{ target := .collected w.heap.size, args := #[] }] ++ a.defers } ((r'.pending.map Item.code).toList ++ kk)) cs (w3.putObj (w.heap.size + 1) (.loop { r' with state := .exhausted }))) :=
     Steps.head henter (Steps.trans hsteps (Steps.head hback (.one (stepR_endRangeFunc hend))))
    have he' : EnvR F' n env ({ a with defers := [{ target := .collected w.heap.size, args := #[] }] ++ a.defers } : Act).tmps := he.mono g1
    have hd' : ({ a with defers := [{ target := .collected w.heap.size, args := #[] }] ++ a.defers } : Act).defers = marks (w.heap.size :: ds) := by
     show [_] ++ a.defers = _
     rw [hd]; rfl
    have fin : ∀ {K' : List AItem} {todo' : List Item}, TR P n K' todo' → AW P w₀ none n Q K' env (σ'.del (w.heap.size + 1)) (w.heap.size :: ds) → (r'.pending.map Item.code).toList ++ kk = todo' →
      ∃ o a' w', (∃ F'' env' σ'' ds', F.le F'' ∧ EnvR F'' n env' a'.tmps ∧ a'.defers = marks ds' ∧ Inv w₀ F'' σ'' w' ∧ Q o env' σ'' ds') ∧ Lands P (lone (b.atR a (.code (.rangeFunc f qs ra rb) :: kk)) cs w) b cs o a' w' := fun {K' todo'} hT hA heq => by
     obtain ⟨o, a', w', ⟨F'', e2, s2, d2, m1, m2⟩, hl⟩ := hA todo' hT F' _ _ he' hd' hI4 b cs hro
     rw [heq] at hs
     exact ⟨o, a', w', ⟨F'', e2, s2, d2, Gh.le_trans g1 m1, m2⟩, hl.of_steps hs⟩
    split at g4
    ·exact fin r g4 (by rw [k3]; rfl)
    ·exact fin (.c (dl := []) rfl r) g4 (by rw [k3]; rfl)
    ·exact fin (.c (dl := []) rfl r) g4 (by rw [k3]; rfl)
    ·exact g4.elim
   ·exact g4.elim
end
end Go.AL
namespace Go.AL
open Go.RowKit
set_option linter.unusedVariables false
set_option linter.unusedSectionVars false
set_option linter.unusedSimpArgs false
def allOf (w : World) : Gh := fun b i => w.cell? ⟨b, i, none⟩
def mkAV (g : Bool) (xs : List AV) : AV := if g then .agg xs else xs.headD .any
mutual
def AV.wt : AV → Nat
 | .str s => s.size + 1
 | .agg xs => AV.wtL xs + 1
 | .lst _ xs _ => AV.wtL xs + 1
 | _ => 1
def AV.wtL : List AV → Nat
 | [] => 0
 | x :: xs => x.wt + AV.wtL xs
end
theorem AV.wtL_append : ∀ (xs ys : List AV), AV.wtL (xs ++ ys) = AV.wtL xs + AV.wtL ys
 | [], ys => by simp [AV.wtL]
 | x :: xs, ys => by simp only [List.cons_append, AV.wtL, AV.wtL_append xs ys]; omega
mutual
def bulk {H : Type} : DataW H → Nat
 | .lit (.string bytes) => bytes.length + 1
 | .lit _ => 1
 | .nil => 1
 | .ptr d => bulk d + 1
 | .slice elems spare => bulkAll elems + bulkAll spare + 1
 | .agg parts => bulkAll parts + 1
 | .iface _ d => bulk d + 1
 | .map entries => bulkEntries entries + 1
 | .held _ => 1
def bulkAll {H : Type} : List (DataW H) → Nat
 | [] => 0
 | d :: r => bulk d + bulkAll r
def bulkEntries {H : Type} : List (Lit × DataW H) → Nat
 | [] => 0
 | x :: r => bulkEntry x + bulkEntries r
def bulkEntry {H : Type} : Lit × DataW H → Nat
 | (.string bytes, d) => bytes.length + bulk d + 1
 | (_, d) => bulk d + 1
end
def fitsFs (P : Program) (R : TypeId → List AV → Prop) : List Field → List AV → Prop
 | [], xs => xs = []
 | f :: fs, xs => R f.type (xs.take (P.cellsOf f.type)) ∧ fitsFs P R fs (xs.drop (P.cellsOf f.type))
def isSt (P : Program) (t : TypeId) : Bool := match P.underlying t with | some (.struct _) => true | _ => false
def Fits (P : Program) : Nat → TypeId → List AV → Prop
 | 0, _, _ => False
 | n + 1, t, xs => match P.underlying t with
   | some .bool => ∃ b, xs = [.bool b]
   | some (.int k) => ∃ i, xs = [.int k i] ∧ (Lit.int k i).wf = true
   | some .string => ∃ s, xs = [.str s] ∧ s.size ≤ maxLen
   | some (.slice e) => ∃ ys, xs = [.lst (P.cellsOf e) ys .none] ∧ ys.length ≤ maxLen ∧ ∀ y ∈ ys, ∃ zs, y = mkAV (isSt P e) zs ∧ Fits P n e zs
   | some (.struct fs) => fitsFs P (Fits P n) fs.toList xs
   | _ => False
def tiled (P : Program) : List Field → Nat → Nat → Bool
 | [], off, tot => off == tot
 | f :: fs, off, tot => f.offset == off && tiled P fs (off + P.cellsOf f.type) tot
def closedTys (P : Program) (S : List TypeId) : Bool := S.all fun t => match P.underlying t with
 | some .bool | some (.int _) | some .string => true
 | some (.slice e) => S.contains e && decide (0 < P.cellsOf e)
 | some (.struct fs) => tiled P fs.toList 0 (P.cellsOf t) && fs.toList.all fun f => S.contains f.type
 | _ => false
section
variable {H : Type} {enc : TypeId × Value → H} {P : Program} {w : World} {base : Nat} {spare : Nat → Bool} {held : Bool}
theorem wt_mk {g : Bool} {xs : List AV} {n : Nat} (h : (mkAV g xs).wt ≤ n) (hx : g = true ∨ ∃ x, xs = [x]) : AV.wtL xs ≤ n := by
 rcases hx with rfl | ⟨x, rfl⟩
 ·simp only [mkAV, if_true, AV.wt] at h; omega
 ·cases g with
  | true => simp only [mkAV, if_true, AV.wt] at h; omega
  | false => simpa [mkAV, AV.wtL] using h
theorem cells_mk {g : Bool} {xs : List AV} (ho : xs.all AV.one = true) (hx : g = true ∨ ∃ x, xs = [x]) : (mkAV g xs).cells = xs := by
 rcases hx with rfl | ⟨x, rfl⟩
 ·rfl
 ·cases g with
  | true => rfl
  | false =>
    simp only [List.all_cons, List.all_nil, Bool.and_true] at ho
    show x.cells = [x]
    cases x <;> first | rfl | cases ho
def Opens (P : Program) (w : World) (n : Nat) (t : TypeId) (cs : List Value) (B : Nat) : Prop :=
 ∃ xs, RelL (allOf w) xs cs ∧ xs.all AV.one = true ∧ Fits P n t xs ∧ (mkAV (isSt P t) xs).wt ≤ B ∧ (isSt P t = true ∨ ∃ x, xs = [x])
theorem opens_fields {S : List TypeId} {n : Nat} {cs : List Value} (ih : ∀ (t : TypeId) (cs : List Value) (d : DataW H) (ps : List MemPlace), t ∈ S → DataW.trod enc P w base spare held n t cs = some (d, ps) → Opens P w n t cs (bulk d)) :
  ∀ (fs : List Field) (off : Nat) (xs : List (DataW H × List MemPlace)), tiled P fs off cs.length = true → (∀ f ∈ fs, f.type ∈ S) → xs.length = fs.length →
    (∀ (i : Nat) (f : Field), fs[i]? = some f → DataW.trod enc P w base spare held n f.type ((cs.drop f.offset).take (P.cellsOf f.type)) = xs[i]?) →
    (∀ f ∈ fs, ∀ c d ps, DataW.trod enc P w base spare held n f.type c = some (d, ps) → c.length = P.cellsOf f.type) →
    ∃ as, RelL (allOf w) as (cs.drop off) ∧ as.all AV.one = true ∧ fitsFs P (Fits P n) fs as ∧ AV.wtL as ≤ bulkAll (xs.map (·.1))
 | [], off, xs, ht, _, hl, _, _ => by
   simp only [tiled, beq_iff_eq] at ht
   subst ht
   refine ⟨[], ?_, rfl, rfl, by simp [AV.wtL]⟩
   rw [List.drop_length]; exact .nil
 | f :: fs, off, [], ht, hS, hl, hx, hsz => by simp at hl
 | f :: fs, off, x :: xs, ht, hS, hl, hx, hsz => by
   simp only [tiled, Bool.and_eq_true, beq_iff_eq] at ht
   obtain ⟨ho, ht⟩ := ht
   have h0 := hx 0 f rfl
   rw [ho] at h0
   obtain ⟨d, ps⟩ := x
   have h0' : DataW.trod enc P w base spare held n f.type ((cs.drop off).take (P.cellsOf f.type)) = some (d, ps) := by simpa using h0
   obtain ⟨ys, h1, h2, h3, h4, h5⟩ := ih f.type _ d ps (hS f (by simp)) h0'
   have hlen : ys.length = P.cellsOf f.type := by rw [h1.length]; exact hsz f (by simp) _ _ _ h0'
   obtain ⟨as, k1, k2, k3, k4⟩ := opens_fields ih fs (off + P.cellsOf f.type) xs ht (fun g hg => hS g (by simp [hg])) (by simpa using hl) (fun i g hg => by simpa using hx (i + 1) g (by simpa using hg)) (fun g hg => hsz g (by simp [hg]))
   refine ⟨ys ++ as, ?_, by rw [List.all_append, h2, k2]; rfl, ?_, ?_⟩
   ·have : cs.drop off = (cs.drop off).take (P.cellsOf f.type) ++ cs.drop (off + P.cellsOf f.type) := by
     rw [← List.drop_drop, List.take_append_drop]
    rw [this]; exact h1.append k1
   ·refine ⟨?_, ?_⟩
    ·rw [← hlen, List.take_left]; exact h3
    ·rw [← hlen, List.drop_left]; exact k3
   ·rw [AV.wtL_append]
    have := wt_mk h4 h5
    simp only [List.map_cons, bulkAll]; omega
theorem opens_elems {S : List TypeId} {n : Nat} {e : TypeId} {b off : Nat} (he : e ∈ S) (hpos : 0 < P.cellsOf e) (ih : ∀ (t : TypeId) (cs : List Value) (d : DataW H) (ps : List MemPlace), t ∈ S → DataW.trod enc P w base spare held n t cs = some (d, ps) → Opens P w n t cs (bulk d)) :
  ∀ (elems : List (DataW H × List MemPlace)) (i0 : Nat), (∀ i, i < elems.length → (w.cells? base (⟨b, off + (i0 + i) * P.cellsOf e, none⟩ : Addr) (P.cellsOf e)).bind (DataW.trod enc P w base spare held n e) = elems[i]?) →
    ∃ (ys : List AV) (us : List Value), ys.length = elems.length ∧ us.length = elems.length * P.cellsOf e ∧ (∀ (j : Nat) (u : Value), us[j]? = some u → w.cell? ⟨b, off + i0 * P.cellsOf e + j, none⟩ = some u) ∧ RelL (allOf w) (ys.flatMap AV.cells) us ∧
      (ys.flatMap AV.cells).all AV.one = true ∧ (∀ y ∈ ys, y.cells.length = P.cellsOf e) ∧ (∀ y ∈ ys, ∃ zs, y = mkAV (isSt P e) zs ∧ Fits P n e zs) ∧ AV.wtL ys ≤ bulkAll (elems.map (·.1))
 | [], i0, _ => ⟨[], [], rfl, by simp, fun j u hu => by simp at hu, .nil, rfl, by simp, by simp, by simp [AV.wtL]⟩
 | x :: elems, i0, hx => by
   obtain ⟨d, ps⟩ := x
   have h0 := hx 0 (by simp)
   simp only [Nat.add_zero, List.getElem?_cons_zero, Option.bind_eq_some_iff] at h0
   obtain ⟨c, hc, hd⟩ := h0
   obtain ⟨_, hcl, hcell⟩ := World.cells?_some hc
   obtain ⟨zs, h1, h2, h3, h4, h5⟩ := ih e c d ps he hd
   obtain ⟨ys, us, k1, k2, k3, k4, k5, k6, k7, k8⟩ := opens_elems he hpos ih elems (i0 + 1) (fun i hi => by
    have := hx (i + 1) (by simpa using hi)
    rw [show i0 + 1 + i = i0 + (i + 1) by omega]
    simpa using this)
   have hcm := cells_mk h2 h5
   refine ⟨mkAV (isSt P e) zs :: ys, c ++ us, by simp [k1], by simp [hcl, k2, Nat.add_mul]; omega, fun j u hu => ?_, ?_, ?_, ?_, ?_, ?_⟩
   ·rw [List.getElem?_append] at hu
    split at hu
    ·rename_i hj
     have := hcell j (by omega)
     rw [Addr.add_mk] at this
     rw [this]; exact hu
    ·rename_i hj
     have := k3 _ _ hu
     rw [← this]; congr 2
     rw [Nat.add_mul]; omega
   ·rw [List.flatMap_cons, hcm]; exact h1.append k4
   ·rw [List.flatMap_cons, hcm, List.all_append, h2, k5]; rfl
   ·intro y hy
    rcases List.mem_cons.1 hy with rfl | hy
    ·rw [hcm, h1.length, hcl]
    ·exact k6 y hy
   ·intro y hy
    rcases List.mem_cons.1 hy with rfl | hy
    ·exact ⟨zs, rfl, h3⟩
    ·exact k7 y hy
   ·simp only [AV.wtL, List.map_cons, bulkAll]; omega
theorem trod_length {S : List TypeId} (hS : closedTys P S = true) {n : Nat} {t : TypeId} {cs : List Value} {d : DataW H} {ps : List MemPlace} (ht : t ∈ S) (hc : ∀ t ∈ S, isSt P t = false → P.cellsOf t = 1)
  (h : DataW.trod enc P w base spare held n t cs = some (d, ps)) : cs.length = P.cellsOf t := by
 have hk := List.all_eq_true.1 hS t ht
 by_cases hst : isSt P t = true
 ·unfold isSt at hst
  split at hst
  ·rename_i fs hu
   obtain ⟨xs, m, _, _, hl, _⟩ := DataW.trod_struct hu h
   exact hl
  ·cases hst
 ·have h1 := hc t ht (by simpa using hst)
  rw [h1]
  split at hk
  ·rename_i hu; obtain ⟨_, rfl, _⟩ := DataW.trod_bool hu h; rfl
  ·rename_i hu; obtain ⟨_, rfl, _⟩ := DataW.trod_int hu h; rfl
  ·rename_i hu; obtain ⟨_, rfl, _⟩ := DataW.trod_string hu h; rfl
  ·rename_i hu
   rcases DataW.trod_slice hu h with ⟨rfl, _⟩ | ⟨_, _, _, _, _, _, _, rfl, _⟩ <;> rfl
  ·rename_i fs hu; exact absurd (by unfold isSt; rw [hu]) hst
  ·cases hk
theorem opens {S : List TypeId} (hS : closedTys P S = true) (hc : ∀ t ∈ S, isSt P t = false → P.cellsOf t = 1) : ∀ (n : Nat) (t : TypeId) (cs : List Value) (d : DataW H) (ps : List MemPlace), t ∈ S →
  DataW.trod enc P w base spare held n t cs = some (d, ps) → Opens P w n t cs (bulk d) := by
 intro n
 induction n with
 | zero => intro t cs d ps _ h; simp [DataW.trod] at h
 | succ n ih =>
   intro t cs d ps ht h
   have hk := List.all_eq_true.1 hS t ht
   split at hk
   ·rename_i hu
    obtain ⟨b, rfl, hx⟩ := DataW.trod_bool hu h
    cases hx
    exact ⟨[.bool b], .cons (.bool b) .nil, rfl, by simp only [Fits, hu]; exact ⟨b, rfl⟩, by simp [isSt, hu, mkAV, AV.wt, bulk], .inr ⟨_, rfl⟩⟩
   ·rename_i k hu
    obtain ⟨b, rfl, hx, hw⟩ := DataW.trod_int hu h
    cases hx
    exact ⟨[.int k b], .cons (.int k b) .nil, rfl, by simp only [Fits, hu]; exact ⟨b, rfl, hw⟩, by simp [isSt, hu, mkAV, AV.wt, bulk], .inr ⟨_, rfl⟩⟩
   ·rename_i hu
    obtain ⟨s, rfl, hx, hs⟩ := DataW.trod_string hu h
    cases hx
    refine ⟨[.str s], .cons (.str s (Nat.lt_of_le_of_lt hs (by decide))) .nil, rfl, by simp only [Fits, hu]; exact ⟨s, rfl, hs⟩, ?_, .inr ⟨_, rfl⟩⟩
    simp only [isSt, hu, mkAV, AV.wt, bulk, Bool.false_eq_true, if_false, List.headD_cons]
    have : s.data.toList.length = s.size := Array.length_toList
    omega
   ·rename_i e hu
    simp only [Bool.and_eq_true, List.contains_iff_mem, decide_eq_true_eq] at hk
    obtain ⟨he, hpos⟩ := hk
    rcases DataW.trod_slice hu h with ⟨rfl, hx⟩ | ⟨a, len, cap, elems, rest, m, hm, rfl, hx, hb, hlc, hcm, hel, hee, _, _⟩
    ·cases hx
     exact ⟨[.lst (P.cellsOf e) [] .none], .cons (.lnil _ _ _ _ (.inl rfl) (by decide)) .nil, rfl, by simp only [Fits, hu]; exact ⟨[], rfl, Nat.zero_le _, fun _ h => by cases h⟩, by simp [isSt, hu, mkAV, AV.wt, AV.wtL, bulk], .inr ⟨_, rfl⟩⟩
    ·cases hx
     cases hm
     have hm63 : cap < 9223372036854775808 := Nat.lt_of_le_of_lt hcm (by decide)
     by_cases hl0 : len = 0
     ·subst hl0
      refine ⟨[.lst (P.cellsOf e) [] .none], .cons (.lnil _ _ _ _ (.inl rfl) hm63) .nil, rfl, by simp only [Fits, hu]; exact ⟨[], rfl, Nat.zero_le _, fun _ h => by cases h⟩, ?_, .inr ⟨_, rfl⟩⟩
      simp [isSt, hu, mkAV, AV.wt, AV.wtL, bulk]
     ·obtain ⟨b, off, spot⟩ := a
      have h00 := hee 0 (by omega)
      have hsome : ∃ y, elems[0]? = some y := ⟨_, List.getElem?_eq_getElem (by omega)⟩
      obtain ⟨y, hy⟩ := hsome
      rw [hy, Option.bind_eq_some_iff] at h00
      obtain ⟨c, hcc, _⟩ := h00
      obtain ⟨_, hcl, hcell⟩ := World.cells?_some hcc
      have hsp : spot = none := by
       have := hcell 0 hpos
       have h2 : ∃ u, c[0]? = some u := ⟨_, List.getElem?_eq_getElem (by omega)⟩
       obtain ⟨u, hu2⟩ := h2
       rw [hu2] at this
       have := World.cell?_spot this
       have hz : ∀ (a : Addr), (a.add 0) = a := fun a => by unfold Addr.add; split <;> simp_all
       rw [hz] at this
       have hz2 : ((⟨b, off, spot⟩ : Addr).add (0 * P.cellsOf e)) = ⟨b, off, spot⟩ := by rw [Nat.zero_mul]; exact hz _
       rw [hz2] at this
       exact this
      subst hsp
      obtain ⟨ys, us, k1, k2, k3, k4, k5, k6, k7, k8⟩ := opens_elems (b := b) (off := off) he hpos ih elems 0 (fun i hi => by
       have := hee i (by omega)
       rw [Addr.add_mk] at this
       rw [Nat.zero_add]; exact this)
      refine ⟨[.lst (P.cellsOf e) ys .none], .cons (.lst (us := us) k5 k4 (fun i u hu2 => ?_) k6 hlc hm63 trivial (by rw [k1, hel])) .nil, rfl, ?_, ?_, .inr ⟨_, rfl⟩⟩
      ·have := k3 i u hu2
       simpa [allOf] using this
      ·simp only [Fits, hu]
       refine ⟨ys, rfl, ?_, k7⟩
       rw [k1, hel]; exact Nat.le_trans hlc hcm
      ·simp only [isSt, hu, mkAV, AV.wt, bulk, Bool.false_eq_true, if_false, List.headD_cons]
       omega
   ·rename_i fs hu
    simp only [Bool.and_eq_true, List.all_eq_true, List.contains_iff_mem] at hk
    obtain ⟨htile, hall⟩ := hk
    obtain ⟨xs, m, hm, hx, hl, hxl, hxf⟩ := DataW.trod_struct hu h
    cases hm
    cases hx
    obtain ⟨as, k1, k2, k3, k4⟩ := opens_fields (cs := cs) ih fs.toList 0 xs (by rw [hl]; exact htile) (fun f hf => hall f hf) (by simpa using hxl) (fun i f hf => hxf i f (by simpa using hf)) (fun f hf c d ps hcd => trod_length hS (hall f hf) hc hcd)
    rw [List.drop_zero] at k1
    refine ⟨as, k1, k2, by simp only [Fits, hu]; exact k3, ?_, .inl (by simp [isSt, hu])⟩
    simp only [isSt, hu, mkAV, if_true, AV.wt, bulk]
    omega
   ·cases hk
theorem arg_rel {S : List TypeId} (hS : closedTys P S = true) (hc : ∀ t ∈ S, isSt P t = false → P.cellsOf t = 1) {r : Reach} {b0 : Nat} {t : TypeId} {v : Value} {d : DataW H} {ps : List MemPlace} (ht : t ∈ S)
  (hv : Value.okWide P w r b0 t v) (h : DataW.Trod enc P w base spare held t v d ps) : ∃ n xs, Rel (allOf w) (mkAV (isSt P t) xs) v ∧ Fits P n t xs ∧ (mkAV (isSt P t) xs).wt ≤ bulk d := by
 obtain ⟨n, hn⟩ := h
 obtain ⟨xs, h1, h2, h3, h4, h5⟩ := opens hS hc n t _ d ps ht hn
 refine ⟨n, xs, ?_, h3, h4⟩
 have hk := List.all_eq_true.1 hS t ht
 by_cases hst : isSt P t = true
 ·rw [hst]
  unfold isSt at hst
  split at hst
  ·rename_i fs hu
   unfold Value.okWide at hv
   rw [hu] at hv
   obtain ⟨cs, rfl, _⟩ := hv
   exact .agg h2 h1
  ·cases hst
 ·have hst' : isSt P t = false := by simpa using hst
  rw [hst']
  obtain ⟨x, rfl⟩ := h5.resolve_left hst
  have hna : ∀ cs, v ≠ .agg cs := by
   rintro cs rfl
   unfold Value.okWide at hv
   split at hk
   ·rename_i hu; rw [hu] at hv; simp [Cell.okWide, Cell.ok, hu] at hv
   ·rename_i k hu; rw [hu] at hv; simp [Cell.okWide, Cell.ok, hu] at hv
   ·rename_i hu; rw [hu] at hv; simp [Cell.okWide, Cell.ok, hu] at hv
   ·rename_i e hu; rw [hu] at hv; simp [Cell.okWide, Cell.ok, hu] at hv
   ·rename_i fs hu; simp [isSt, hu] at hst
   ·cases hk
  have hcells : v.cells.toList = [v] := by cases v <;> first | rfl | exact absurd rfl (hna _)
  rw [hcells] at h1
  cases h1 with
  | cons h _ => exact h
end
theorem inv_start (w : World) : Inv w (allOf w) (fun _ => none) w :=
 ⟨fun b i v h => h, fun b o h => (by cases h), fun b o h => (by cases h), fun b o h => (by cases h), Below.refl _ _⟩
theorem calls_of {P : Program} {f : FuncId} {args : List AV} {vs : List Value} {W : World} (h : ACall P W f args (fun _ => none) fun v _ => v = .bool true) (hr : RelL (allOf W) args vs) :
  Calls P f ⟨vs⟩ W fun e W' => e = .returned (.bool true) ∧ Below W.heap.size W W' := by
 refine (h.2 (allOf W) vs W hr (inv_start W)).mono ?_
 rintro e W' ⟨cv, rfl, F', v, σ', _, hrel, hI, rfl⟩
 have : cv = .bool true := hrel.bool_inv
 subst this
 exact ⟨rfl, hI.base⟩
end Go.AL
