/- Functions of the program: what they return, and that they do. -/
import Derived.Test.YtcalbijmeifbhaaGreatHandG
import Derived.Defers
import Derived.Recover
import Derived.Tactics
import Derived.Tactics2
set_option linter.unusedVariables false
set_option linter.unusedSimpArgs false
namespace Go.AL
open Go.RowKit
set_option linter.unusedVariables false
set_option linter.unusedSectionVars false
set_option linter.unusedSimpArgs false
namespace TD
def rShape (P : Program) (f : Nat) : Option (Nat × List (Option Nat × Op × Option (Nat × Bool)) × List (Option Nat × Op × Option (Nat × Bool)) × Operand × Array ResultVar) :=
 match P.funcs[f]? with
 | none => none
 | some fn => if (fn.name == "runtime.NumGoroutine") = true then none else match fn.body with
   | some (.seq (.region _ a false) (.seq (.region _ b false) (.cond c _ .skip))) => some (fn.ntmps, a.toList.map (fun o => (o.dst, o.op, o.guard)), b.toList.map (fun o => (o.dst, o.op, o.guard)), c, fn.results)
   | _ => none
theorem list2 {α β : Type} {g : α → β} {l : List α} {x y : β} (h : l.map g = [x, y]) : ∃ a b, l = [a, b] ∧ g a = x ∧ g b = y := by
 match l, h with
 | [a, b], h => simp only [List.map_cons, List.map_nil, List.cons.injEq, and_true] at h; exact ⟨a, b, rfl, h.1, h.2⟩
 | [], h => simp at h
 | [_], h => simp at h
 | _ :: _ :: _ :: _, h => simp at h
theorem eq_nil {P : Program} {t : Nat} {ms : Array (String × TypeId)} (ht : P.underlying t = some (.interface ms)) (w : World) : (Op.equal t .nilIface .nilIface).run P w = .ok true w := by
 have key : ∀ d, (Op.equalIn (d + 1) t .nilIface .nilIface).run P w = .ok true w := fun d => by
  rw [Op.equalIn]; simp [run_underlying ht]
 exact key _
theorem idle {P : Program} {f t : Nat} {ms : Array (String × TypeId)} (ht : P.underlying t = some (.interface ms)) (hs : rShape P f = some (19, [(some 5, .call { callee := .builtin .recover, args := #[], argTypes := #[] }, none), (some 2, .assign (.tmp 5), none)],
  [(some 6, .move (.tmp 2), none), (some 7, .binOp .neq t (.tmp 6) (.const .nilIface) t, none)], .tmp 7, #[])) (p q : Value) (w : World) :
  CallsD P f #[p, q] .returning w fun e u' w' => e = .returned (.tuple #[]) ∧ u' = .returning ∧ w' = w := by
 unfold rShape at hs
 split at hs
 ·cases hs
 rename_i fn hf
 split at hs
 ·cases hs
 split at hs
 case h_2 => cases hs
 rename_i i1 a i2 b c x hb
 simp only [Option.some.injEq, Prod.mk.injEq] at hs
 obtain ⟨hn, ha, hb2, rfl, hres⟩ := hs
 obtain ⟨o1, o2, h1, h2, h3⟩ := list2 ha
 obtain ⟨o3, o4, h4, h5, h6⟩ := list2 hb2
 obtain ⟨d1, p1, t1, s1, f1, g1⟩ := o1
 obtain ⟨d2, p2, t2, s2, f2, g2⟩ := o2
 obtain ⟨d3, p3, t3, s3, f3, g3⟩ := o3
 obtain ⟨d4, p4, t4, s4, f4, g4⟩ := o4
 simp only [Prod.mk.injEq] at h2 h3 h5 h6
 obtain ⟨rfl, rfl, rfl⟩ := h2
 obtain ⟨rfl, rfl, rfl⟩ := h3
 obtain ⟨rfl, rfl, rfl⟩ := h5
 obtain ⟨rfl, rfl, rfl⟩ := h6
 obtain ⟨a⟩ := a
 obtain ⟨b⟩ := b
 simp only at h1 h4
 subst h1 h4
 refine callsD_of_wpS hf hb fun c₀ cs hu => ?_
 apply wpS_seq
 apply wpS_region
 simp [wpOpsS, go_sem, recoverD, hu, hn, Exit.thenS]
 apply wpS_seq
 apply wpS_region
 have hbin : ∀ w, (binOp .neq t .nilIface .nilIface).run P w = .ok (.bool false) w := fun w => by
  simp [binOp, eq_nil ht]
 simp [wpOpsS, go_sem, Exit.thenS, hbin]
 refine wpS_cond (t := false) (by simp [Act.eval, Array.replicate]) ?_
 simp only [Bool.false_eq_true, if_false]
 refine wpS_of_wp (wp_skip ?_)
 cases c₀
 simp_all [bodyPostS, results]
theorem regE {P : Program} {W : World} {Γ : Ctx} (hΓ : CtxOK P W Γ) {fr0 : F0} {w : Wd} {st : St} {aenv : Env} {σ : AH} {ds : List Nat} {n : Nat} {ops : Array Oper} {ais : List AI} {id : Nat} {kn : St → Prop} (hos : compOps P n ops ops.toList = some ais) (h : wpOE Γ [] ais st kn)
  (hs : StR P W fr0 w st aenv σ ds) {F : Gh} {a : Act} {w1 : World} {D : List Deferred} {todo : List Item} {Q : Out → Act → World → Prop}
  (he : EnvR F n aenv a.tmps) (hd : a.defers = D) (hI : Inv W F σ w1)
  (hk : ∀ st' w' aenv' σ' F' a' w1', kn st' → StR P W fr0 w' st' aenv' σ' ds → Wd.le st.nx w w' → st.nx ≤ st'.nx → F.le F' → EnvR F' n aenv' a'.tmps → a'.defers = D → Inv W F' σ' w1' → WT none P Q todo a' w1') :
  WT none P Q (.code (.region id ops false) :: todo) a w1 := by
 refine .code (wpIn_region (wpOps_sound (K := fun env' σ' => ∃ st' w', kn st' ∧ StR P W fr0 w' st' env' σ' ds ∧ Wd.le st.nx w w' ∧ st.nx ≤ st'.nx) ops.toList (List.range ops.size) ais F aenv σ a w1 (fun k => ?_) (by simp) hos he hd hI
  (wpOE_sound hΓ ais st w aenv σ h hs.1 hs.2 fun st' w' aenv' σ' h1 h2 h3 h4 h5 h6 => ⟨st', w', h1, ⟨h2, h3⟩, h4, h5⟩) ?_))
 ·by_cases hk : k < ops.size <;> simp [hk]
 ·rintro a' w1' ⟨F', env', σ', h1, h2, h3, h4, st', w', k1, k2, k3, k4⟩
  exact ⟨rfl, hk st' w' env' σ' F' a' w1' k1 k2 k3 k4 h1 h2 h3 h4⟩
theorem regD {P : Program} {id g : Nat} {todo : List Item} {Q : Out → Act → World → Prop} {a : Act} {w1 : World} {o1 o2 : Oper} (h1 : o1.op = .makeFunc (.func g) #[] #[.tmp 2, .tmp 3]) (d1 : o1.dst = some 4) (g1 : o1.guard = none)
  (h2 : o2.op = .defer { callee := .value (.tmp 4), args := #[], argTypes := #[] }) (d2 : o2.dst = none) (g2 : o2.guard = none) (hsz : 4 < a.tmps.size)
  (h : WT none P Q todo { tmps := a.tmps.setIfInBounds 4 (.func (.func g) #[] #[a.eval (.tmp 2), a.eval (.tmp 3)]), defers := { target := .fn (.func g) #[a.eval (.tmp 2), a.eval (.tmp 3)], args := #[] } :: a.defers } w1) :
  WT none P Q (.code (.region id #[o1, o2] false) :: todo) a w1 := by
 obtain ⟨_, _, t1, s1, f1, _⟩ := o1
 obtain ⟨_, _, t2, s2, f2, _⟩ := o2
 simp only at h1 d1 g1 h2 d2 g2
 subst h1 d1 g1 h2 d2 g2
 have hmf : ∀ (fn : Fn) (first cap : Array Value) (w : World), (Instr.makeFunc fn first cap).run P w = .ok (.func fn first cap) w := fun _ _ _ _ => rfl
 refine .code (wpIn_region ?_)
 simp [wpOpsIn, Oper.wpIn, Oper.about, go_sem, hmf]
 have e1 : ∀ o : Oper, o.op = .makeFunc (.func g) #[] #[.tmp 2, .tmp 3] → (Oper.semAt (ring none).round a.eval o).run P w1 = .ok (.value (.func (.func g) #[] #[a.eval (.tmp 2), a.eval (.tmp 3)])) w1 := by
  rintro ⟨_, _, _, _, _, _⟩ ho
  simp only at ho
  subst ho
  rw [show (ring none).round = (none : Option Nat) from rfl, Oper.semAt_none]
  simp [execOp, hmf]
 rw [e1 _ rfl, Oper.uponIn_value]
 have e2 : (a.put (some 4) (.func (.func g) #[] #[a.eval (.tmp 2), a.eval (.tmp 3)])).eval (.tmp 4) = .func (.func g) #[] #[a.eval (.tmp 2), a.eval (.tmp 3)] := by
  simp [Act.put, Act.eval, hsz, Array.getD_eq_getD_getElem?]
 have e3 : ∀ (x : Act) (o : Oper), o.op = .defer { callee := .value (.tmp 4), args := #[], argTypes := #[] } → x.eval (.tmp 4) = .func (.func g) #[] #[a.eval (.tmp 2), a.eval (.tmp 3)] →
   (Oper.semAt (ring none).round x.eval o).run P w1 = .ok (.defer { target := .fn (.func g) #[a.eval (.tmp 2), a.eval (.tmp 3)], args := #[] }) w1 := by
  rintro x ⟨_, _, _, _, _, _⟩ ho hx
  simp only at ho
  subst ho
  rw [show (ring none).round = (none : Option Nat) from rfl, Oper.semAt_none]
  simp [execOp, resolve, hx, Deferred.ofValue]
 rw [e3 _ _ rfl e2, Oper.uponIn_defer]
 exact h
def gShape (P : Program) (f : Nat) : Option (Nat × List RV × List AI × List (Option Nat × Op × Option (Nat × Bool)) × List AI × List AI × AX × List AI) :=
 match P.funcs[f]? with
 | none => none
 | some fn => if (fn.name == "runtime.NumGoroutine") = true then none else match fn.body with
   | some (.seq (.region _ a0 false) (.seq (.region _ a1 false) (.seq (.region _ a2 false) (.seq (.seq (.region _ a3 false) (.cond c _ .skip)) (.seq (.region _ a5 false) .ret))))) =>
     match compRVs P fn.results.toList, compOps P fn.ntmps a0 a0.toList, compOps P fn.ntmps a2 a2.toList, compOps P fn.ntmps a3 a3.toList, cOpd P 0 c, compOps P fn.ntmps a5 a5.toList with
     | some rvs, some R0, some R2, some R3, some z, some R5 => some (fn.ntmps, rvs, R0, a1.toList.map (fun o => (o.dst, o.op, o.guard)), R2, R3, z, R5)
     | _, _, _, _, _, _ => none
   | _ => none
def no4 (env : List (Nat × VV)) : List (Nat × VV) := (env.filter fun p => !(p.1 == 4)).map fun p => (p.1, nocnd p.2)
theorem lk_no4 (env : List (Nat × VV)) (t : Nat) : lk (no4 env) t = if t = 4 then .any else nocnd (lk env t) := by
 induction env with
 | nil => simp [no4, lk, nocnd]
 | cons p env ih =>
   obtain ⟨a, x⟩ := p
   by_cases ha : a = 4
   ·subst ha
    have e : no4 ((4, x) :: env) = no4 env := by simp [no4]
    rw [e, ih]
    by_cases ht : t = 4
    ·simp [ht]
    ·simp [ht, lk, Ne.symm ht]
   ·have e : no4 ((a, x) :: env) = (a, nocnd x) :: no4 env := by simp [no4, ha]
    rw [e]
    simp only [lk]
    by_cases hat : a = t
    ·subst hat; simp [ha]
    ·simp only [hat, if_false]; exact ih
def C (Γ : Ctx) (n : Nat) (rvs : List RV) (R0 R2 R3 : List AI) (z : AX) (R5 : List AI) : Ctr where
 pv _ := none
 run vs st K := if vs.length ≤ n then wpOE Γ [] R0 { st with env := (List.range vs.length).zip (vs.map nocnd) } fun st0 => wpOE Γ [] R2 { st0 with env := no4 st0.env } fun st2 => wpOE Γ [] R3 st2 fun st3 => match evX st3.env [] z with
  | .bool e => ifB e False (wpOE Γ [] R5 st3 fun st5 => match resV st5 rvs with
    | some l => K (inlRes l) { st5 with env := st.env }
    | none => False)
  | _ => False
  else False
theorem ok {P : Program} {W : World} {Γ : Ctx} (hΓ : CtxOK P W Γ) {f g t n : Nat} {ms : Array (String × TypeId)} {rvs : List RV} {R0 R2 R3 : List AI} {z : AX} {R5 : List AI} (ht : P.underlying t = some (.interface ms))
  (hg : rShape P g = some (19, [(some 5, .call { callee := .builtin .recover, args := #[], argTypes := #[] }, none), (some 2, .assign (.tmp 5), none)],
   [(some 6, .move (.tmp 2), none), (some 7, .binOp .neq t (.tmp 6) (.const .nilIface) t, none)], .tmp 7, #[]))
  (hs : gShape P f = some (n, rvs, R0, [(some 4, .makeFunc (.func g) #[] #[.tmp 2, .tmp 3], none), (none, .defer { callee := .value (.tmp 4), args := #[], argTypes := #[] }, none)], R2, R3, z, R5)) (hn4 : 4 < n) :
  CtrOK P W f (C Γ n rvs R0 R2 R3 z R5) := by
 have hs0 := hs
 unfold gShape at hs
 split at hs
 ·cases hs
 rename_i fn hf
 split at hs
 ·cases hs
 rename_i hname
 split at hs
 case h_2 => cases hs
 rename_i i0 a0 i1 a1 i2 a2 i3 a3 c x i5 a5 hb
 split at hs
 case h_2 => cases hs
 rename_i rvs' R0' R2' R3' z' R5' hrv h0 h2 h3 hz h5
 simp only [Option.some.injEq, Prod.mk.injEq] at hs
 obtain ⟨rfl, rfl, rfl, ha1, rfl, rfl, rfl, rfl⟩ := hs
 obtain ⟨o1, o2, ho, ho1, ho2⟩ := list2 ha1
 simp only [Prod.mk.injEq] at ho1 ho2
 obtain ⟨a1⟩ := a1
 simp only at ho
 subst ho
 refine ⟨fun vs pv h => (by cases h), fun vs st K h fr0 w σ ds as hH hr => ?_⟩
 simp only [C] at h
 split at h
 case isFalse => exact h.elim
 rename_i hlen
 have hl : vs.length = as.length := hr.length.symm
 have hsS : StR P W fr0 w { st with env := (List.range vs.length).zip (vs.map nocnd) } (argEnv 0 as) σ ds := by
  refine ⟨ER_of fun p hp => ?_, hH.withEnv _⟩
  refine VRelL_zip _ _ (.inr trivial) (fun v hv => ?_) (fun i t v ht hv => ?_) p hp
  ·obtain ⟨u, _, rfl⟩ := List.mem_map.1 hv
   cases u <;> rfl
  ·have hi : i < vs.length := by
    rcases Nat.lt_or_ge i vs.length with h6 | h6
    ·exact h6
    ·rw [List.getElem?_eq_none (by simpa using h6)] at ht; cases ht
   rw [List.getElem?_range hi] at ht
   cases ht
   rw [List.getElem?_map] at hv
   obtain ⟨u, hu, rfl⟩ := Option.map_eq_some_iff.1 hv
   obtain ⟨x, h7, h8⟩ := hr.get i hu
   rw [argEnv_get]
   simp only [Nat.zero_le, if_true, Nat.sub_zero, List.getD_eq_getElem?_getD, h7, Option.getD_some]
   cases u <;> first | (simp only [nocnd, VRel]; done) | exact h8
 refine ⟨⟨fn, hf, by rw [hb]; rfl, by simpa using hname⟩, fun F cvs w1 hrel hI cs => ?_⟩
 let b : Frame := { (default : Frame) with fn := f, kind := .normal, roundOf := none }
 let body : Code := .seq (.region i0 a0 false) (.seq (.region i1 ⟨[o1, o2]⟩ false) (.seq (.region i2 a2 false) (.seq (.seq (.region i3 a3 false) (.cond c x .skip)) (.seq (.region i5 a5 false) .ret))))
 have henter : Frame.enter P f ⟨cvs⟩ .normal = b.atR { tmps := (⟨cvs⟩ : Array Value) ++ Array.replicate (fn.ntmps - (⟨cvs⟩ : Array Value).size) undef, defers := [] } [.code body] := by
  simp [Frame.enter, Frame.atR, hf, hb, b, body]
 have hlv : cvs.length = as.length := hrel.length.symm
 have hE : EnvR F fn.ntmps (argEnv 0 as) ((⟨cvs⟩ : Array Value) ++ Array.replicate (fn.ntmps - (⟨cvs⟩ : Array Value).size) undef) := by
  refine ⟨by simp; omega, fun t ht => ?_⟩
  rw [argEnv_get] at ht ⊢
  simp only [Nat.zero_le, if_true, Nat.sub_zero] at ht ⊢
  by_cases htl : t < as.length
  ·obtain ⟨v, hv, hr⟩ := hrel.get (i := t) (x := as[t]) (by simp [htl])
   refine ⟨v, ?_, by simpa [List.getD_eq_getElem?_getD, htl] using hr⟩
   rw [Array.getElem?_append_left (by simp; omega)]
   simpa using hv
  ·exact absurd (by simp [List.getD_eq_getElem?_getD, List.getElem?_eq_none (Nat.le_of_not_lt htl)]) ht
 have hWT : WT none P (fun o a' w1' => o = .ret ∧ ∃ F' aenv' σ' st5 w' p q l, F.le F' ∧ EnvR F' fn.ntmps aenv' a'.tmps ∧ a'.defers = [{ target := .fn (.func g) #[p, q], args := #[] }] ∧ Inv W F' σ' w1' ∧ StR P W fr0 w' st5 aenv' σ' ds ∧
   resV st5 rvs' = some l ∧ K (inlRes l) { st5 with env := st.env } ∧ Wd.le st.nx w w' ∧ st.nx ≤ st5.nx) [.code body] { tmps := (⟨cvs⟩ : Array Value) ++ Array.replicate (fn.ntmps - (⟨cvs⟩ : Array Value).size) undef, defers := [] } w1 := by
  refine .step (fun _ _ _ => stepR_seq) ?_
  refine regE hΓ h0 h hsS hE rfl hI fun st0 w0 aenv0 σ0 F0 a0' w10 h1 s1 l1 n1 f1 e1 d1 I1 => ?_
  refine .step (fun _ _ _ => stepR_seq) ?_
  refine regD ho1.2.1 ho1.1 ho1.2.2 ho2.2.1 ho2.1 ho2.2.2 (by rw [e1.1]; exact hn4) ?_
  rw [d1]
  have e1' : EnvR F0 fn.ntmps (aenv0.put 4 .any) (a0'.tmps.setIfInBounds 4 (.func (.func g) #[] #[a0'.eval (.tmp 2), a0'.eval (.tmp 3)])) := by
   refine ⟨by simp [e1.1], fun t ht => ?_⟩
   by_cases ht4 : t = 4
   ·subst ht4; rw [Env.get_put_same] at ht; exact absurd rfl ht
   ·rw [Env.get_put_ne _ _ ht4] at ht ⊢
    obtain ⟨v, k1, k2⟩ := e1.2 t ht
    exact ⟨v, by rw [Array.getElem?_setIfInBounds_ne (Ne.symm ht4)]; exact k1, k2⟩
  have s1' : StR P W fr0 w0 { st0 with env := no4 st0.env } (aenv0.put 4 .any) σ0 ds := by
   refine ⟨fun t => ?_, s1.2.withEnv _⟩
   show SR P W w0 st0.nx (aenv0.put 4 .any) (lk (no4 st0.env) t) ((aenv0.put 4 .any).get t)
   rw [lk_no4]
   by_cases ht4 : t = 4
   ·rw [if_pos ht4]; simp [SR, VRel]
   ·rw [if_neg ht4, Env.get_put_ne _ _ ht4]
    have := s1.1 t
    generalize lk st0.env t = v at this
    cases v <;> first | (simp only [nocnd, SR, VRel]; done) | exact this
  refine .step (fun _ _ _ => stepR_seq) ?_
  refine regE hΓ h2 h1 s1' e1' rfl I1 fun st2 w2 aenv2 σ2 F2 a2' w12 h2' s2 l2 n2 f2 e2 d2 I2 => ?_
  refine .step (fun _ _ _ => stepR_seq) ?_
  refine .step (fun _ _ _ => stepR_seq) ?_
  refine regE hΓ h3 h2' s2 e2 d2 I2 fun st3 w3 aenv3 σ3 F3 a3' w13 h3' s3 l3 n3 f3 e3 d3 I3 => ?_
  have rz := evX_rel s3.1 (gs := []) (fun g hg => by cases hg) z'
  split at h3'
  case h_2 => exact h3'.elim
  rename_i e he
  rw [he] at rz
  simp only [VRel] at rz
  cases e with
  | true => exact h3'.elim
  | false =>
    have hcb : a3'.eval c = .bool false := by
     have := e3.opd (P := P) [c] c (by simp) _ _ hz
     rw [rz] at this
     exact this.bool_inv
    refine .step (fun _ _ _ => stepR_cond hcb) ?_
    simp only [Bool.false_eq_true, if_false]
    refine .step (fun _ _ _ => stepR_skip) ?_
    refine .step (fun _ _ _ => stepR_seq) ?_
    refine regE hΓ h5 h3' s3 e3 d3 I3 fun st5 w5 aenv5 σ5 F5 a5' w15 h5' s5 l5 n5 f5 e5 d5 I5 => ?_
    split at h5'
    case h_2 => exact h5'.elim
    rename_i l hl5
    refine .ret ⟨rfl, F5, aenv5, σ5, st5, w5, _, _, l, Gh.le_trans f1 (Gh.le_trans f2 (Gh.le_trans f3 f5)), e5, d5, I5, s5, hl5, h5', ?_, ?_⟩
    ·exact Wd.le_trans l1 (Wd.le_trans l2 (Wd.le_trans l3 l5 n3) n2) n1
    ·exact Nat.le_trans n1 (Nat.le_trans n2 (Nat.le_trans n3 n5))
 obtain ⟨o, a', w1', ⟨rfl, F', aenv', σ', st5, w', p, q, l, k1, k2, k3, k4, k5, k6, k7, k8, k9⟩, hland⟩ := hWT b cs rfl
 rw [← henter] at hland
 obtain ⟨kk, hland⟩ := hland
 have hret := Steps.trans hland (.one (stepR_ret rfl))
 have hres := resV_rel (P := P) (W := W) k5.1 k5.2.obj k6 (K := fun vs => ∃ v st' w', K v st' ∧ st'.env = st.env ∧ HR P W fr0 w' st' σ' ds ∧ VRel P W w' st'.nx v (one1 vs) ∧ Wd.le st.nx w w' ∧ st.nx ≤ st'.nx)
  fun us hu => ⟨_, _, w', k7, rfl, k5.2.withEnv _, inlRes_rel hu, k8, k9⟩
 obtain ⟨vs', cvs', hK, hrl, hrun⟩ := run_resW (P := P) k2 k4 hrv hres
 have hresults : (results fn a'.tmps).run P w1' = .ok (if h : (⟨cvs'⟩ : Array Value).size = 1 then (⟨cvs'⟩ : Array Value)[0] else .tuple ⟨cvs'⟩) w1' := by
  have e1 : results fn a'.tmps = (do let vs ← fn.results.mapM (rvRun a'.tmps); pure (if h : vs.size = 1 then vs[0] else .tuple vs)) := by
   have : (fun r : ResultVar => (match r with | .tmp t => pure (a'.tmps.getD t undef) | .cell a t => do loadVar t (← asAddr (a'.tmps.getD a undef)) : Sem Value)) = rvRun a'.tmps := by
    funext r; cases r <;> rfl
   rw [← this]; rfl
  rw [e1, Array.mapM_eq_mapM_toList]
  simp only [Sem.run_bind, Sem.run_map, hrun, Result.andThen_ok, Sem.run_pure]
 let R : Ending → World → Prop := fun e w2 => ∃ cv, e = .returned cv ∧ ∃ F' v σ', F.le F' ∧ Rel F' v cv ∧ Inv W F' σ' w2 ∧ ∃ v' st' w', K v' st' ∧ st'.env = st.env ∧ HR P W fr0 w' st' σ' ds ∧ VRel P W w' st'.nx v' v ∧ Wd.le st.nx w w' ∧ st.nx ≤ st'.nx
 have hlv2 : Leaves P fn a'.tmps R [{ target := .fn (.func g) #[p, q], args := #[] }] .returning w1' := by
  refine leaves_cons (f := g) (args := #[p, q]) (by simp) ?_ ((idle ht hg p q w1').mono ?_)
  ·unfold rShape at hg
   split at hg
   ·cases hg
   rename_i fng hfg
   split at hg
   ·cases hg
   rename_i hng
   split at hg
   case h_2 => cases hg
   rename_i hbg
   have hng' : ¬ fng.name = "runtime.NumGoroutine" := by simpa using hng
   simp only [invoke, callFunc]
   simp [Sem.run, program, hfg, hbg]
   exact hng'
  ·rintro e u' w2 ⟨rfl, rfl, rfl⟩
   exact ⟨_, hresults, _, rfl, F', _, σ', k1, hrl.one1, k4, hK⟩
 obtain ⟨e, w2, fr', hR, hcomes, hfn', hleave⟩ := leaves_steps (P := P) [{ target := .fn (.func g) #[p, q], args := #[] }] .returning w1' { b.atR a' (.code .ret :: kk) with mode := .returning } cs rfl k3 rfl hf rfl hlv2
 exact ⟨e, w2, fr', hR, Comes.of_steps hret hcomes, hfn', hleave⟩
end TD
end Go.AL
