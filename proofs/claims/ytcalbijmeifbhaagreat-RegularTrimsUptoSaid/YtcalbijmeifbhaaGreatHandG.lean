/- Functions of the program: what they return, and that they do. -/
import Derived.Test.YtcalbijmeifbhaaGreatHandF
set_option linter.unusedVariables false
set_option linter.unusedSimpArgs false
namespace Go.AL
open Go.RowKit
set_option linter.unusedVariables false
set_option linter.unusedSectionVars false
set_option linter.unusedSimpArgs false
namespace TW
def code (sz : Nat) : AC :=
 .seq (.reg [⟨(some 4), none, .mv (.c (.lst sz [] .clip))⟩] [])
 (.seq (.seq (.reg [⟨(some 5), none, .mv (.t 1)⟩, ⟨(some 6), none, .bin .lss (.t 5) (.c (.int .i64 0))⟩] [])
  (.cond (.t 6) (.reg [⟨(some 7), none, .bad⟩, ⟨none, none, .bad⟩] [])
   (.skip)))
  (.seq (.seq (.reg [⟨(some 8), none, .mv (.t 1)⟩, ⟨(some 9), none, .mv (.t 0)⟩, ⟨(some 10), none, .cap (.t 9)⟩, ⟨(some 11), none, .mv (.t 0)⟩, ⟨(some 12), none, .len (.t 11)⟩, ⟨(some 13), none, .bin .sub (.t 10) (.t 12)⟩, ⟨(some 14), none, .bin .sub (.t 8) (.t 13)⟩, ⟨(some 1), none, .mv (.t 14)⟩] [])
   (.seq (.reg [⟨(some 15), none, .mv (.t 1)⟩, ⟨(some 16), none, .bin .gtr (.t 15) (.c (.int .i64 0))⟩] [])
    (.cond (.t 16) (.reg [⟨(some 17), none, .mv (.t 0)⟩, ⟨(some 18), none, .mv (.t 0)⟩, ⟨(some 19), none, .cap (.t 18)⟩, ⟨(some 20), none, .slc sz (.t 17) none (some (.t 19)) none⟩, ⟨(some 21), none, .mv (.t 1)⟩, ⟨(some 22), none, .appz sz (.t 20) (.t 21)⟩, ⟨(some 23), none, .mv (.t 0)⟩, ⟨(some 24), none, .len (.t 23)⟩, ⟨(some 25), none, .slc sz (.t 22) none (some (.t 24)) none⟩, ⟨(some 0), none, .mv (.t 25)⟩] [])
     (.skip))))
   (.seq (.reg [⟨(some 26), none, .mv (.t 0)⟩, ⟨(some 4), none, .mv (.t 26)⟩] [])
    (.ret))))
variable {P : Program} {W : World}
def C (sz : Nat) : Ctr where
 pv _ := none
 run vs st K := match vs with
  | [.vls sz' [] .clip, .int k n] => if sz' = sz ∧ k = .i64 then (0 ≤ n ∧ n ≤ 8589934592) ∧ K (.vls sz [] (.own st.nx)) { st with live := st.nx :: st.live, nx := st.nx + 1 } else False
  | _ => False
theorem drop_nil (e : Env) : Env.drop e [] = e := by simp [Env.drop]
theorem ok {f sz : Nat} (hc : codeOf P f = some (27, [.t 4], code sz)) : CtrOK P W f (C sz) := by
 constructor
 ·intro vs pv hpv; cases hpv
 ·intro vs st K hrun fr0 w σ ds as hH hr
  simp only [C] at hrun
  split at hrun
  case h_2 => exact hrun.elim
  rename_i sz' k n
  split at hrun
  case isFalse => exact hrun.elim
  rename_i hs
  obtain ⟨rfl, rfl⟩ := hs
  obtain ⟨⟨hn0, hn1⟩, hrun⟩ := hrun
  simp only [VRelL] at hr
  obtain ⟨ax, r1, rfl, rx, an, r2, rfl, rn, rfl⟩ := hr
  simp only [VRel, VRelB] at rx rn
  obtain ⟨ys, tok, rfl, rfl, rt⟩ := rx
  have rt' : tok = .clip := rt
  subst rt' rn
  have fin : ∀ (t' : Tok) (σ' : AH), Appended σ .clip σ' t' → ∃ v st' w', K v st' ∧ st'.env = st.env ∧ HR P W fr0 w' st' σ' ds ∧ VRel P W w' st'.nx v (.lst sz' [] t') ∧ Wd.le st.nx w w' ∧ st.nx ≤ st'.nx := by
   intro t' σ' ha
   obtain ⟨w', h1, h2, h3⟩ := hH.app (tk := .clip) (t := .clip) rfl (show takeTok st .clip = some st.live from rfl) ha
   refine ⟨_, _, w', hrun, rfl, h2, ?_, h1, Nat.le_succ _⟩
   simp only [VRel, VRelB]
   exact ⟨[], t', rfl, rfl, Nat.lt_succ_self _, h3.symm⟩
  have w0 : IntKind.i64.wrap (n - IntKind.i64.wrap (((0 : Nat) : Int) - ((0 : Nat) : Int))) = n := by
   have h0 : IntKind.i64.wrap (((0 : Nat) : Int) - ((0 : Nat) : Int)) = 0 := rfl
   rw [h0, show n - 0 = n by omega, inR_wrap (inR64 (by omega))]
  obtain ⟨fn, c, e1, e2, e3, e4, e5, e6⟩ := codeOf_spec hc
  refine acall_of e1 e2 e3 e4 e5 (by rw [e6]; simp) ?_
  rw [e6]
  refine AW.seq (AW.reg ?_)
  rw [wpOps]; simp only [wpA, ev, argEnv, Env.get, Env.set, Env.put, reduceIte, Nat.reduceEqDiff, Nat.reduceAdd, reduceCtorEq, Nat.zero_add]
  rw [wpOps, drop_nil]
  refine AW.seq (AW.seq (AW.reg ?_))
  rw [wpOps]; simp only [wpA, ev, Env.get, Env.set, Env.put, reduceIte, Nat.reduceEqDiff, Nat.reduceAdd, reduceCtorEq, Nat.zero_add]
  rw [wpOps]; simp only [wpA, ev, binA, Env.get, Env.set, Env.put, reduceIte, Nat.reduceEqDiff, Nat.reduceAdd, reduceCtorEq, Nat.zero_add]
  refine ⟨trivial, ?_⟩
  rw [wpOps, drop_nil]
  refine AW.cond (b := false) (by simp [ev, Env.get]; omega) (AW.skip ?_)
  refine AW.seq (AW.seq (AW.reg ?_))
  rw [wpOps]; simp only [wpA, ev, Env.get, Env.set, Env.put, reduceIte, Nat.reduceEqDiff, Nat.reduceAdd, reduceCtorEq, Nat.zero_add]
  rw [wpOps]; simp only [wpA, ev, Env.get, Env.set, Env.put, reduceIte, Nat.reduceEqDiff, Nat.reduceAdd, reduceCtorEq, Nat.zero_add]
  rw [wpOps]; simp only [wpA, ev, Env.get, Env.set, Env.put, reduceIte, Nat.reduceEqDiff, Nat.reduceAdd, reduceCtorEq, Nat.zero_add, List.length_nil]
  rw [wpOps]; simp only [wpA, ev, Env.get, Env.set, Env.put, reduceIte, Nat.reduceEqDiff, Nat.reduceAdd, reduceCtorEq, Nat.zero_add, List.length_nil]
  rw [wpOps]; simp only [wpA, ev, Env.get, Env.set, Env.put, reduceIte, Nat.reduceEqDiff, Nat.reduceAdd, reduceCtorEq, Nat.zero_add, List.length_nil]
  intro _
  rw [wpOps]; simp only [wpA, ev, binA, Env.get, Env.set, Env.put, reduceIte, Nat.reduceEqDiff, Nat.reduceAdd, reduceCtorEq, Nat.zero_add, List.length_nil]
  refine ⟨trivial, ?_⟩
  rw [wpOps]; simp only [wpA, ev, binA, Env.get, Env.set, Env.put, reduceIte, Nat.reduceEqDiff, Nat.reduceAdd, reduceCtorEq, Nat.zero_add, List.length_nil]
  refine ⟨trivial, ?_⟩
  rw [w0]
  rw [wpOps]; simp only [wpA, ev, Env.get, Env.set, Env.put, reduceIte, Nat.reduceEqDiff, Nat.reduceAdd, reduceCtorEq, Nat.zero_add]
  rw [wpOps, drop_nil]
  refine AW.seq (AW.reg ?_)
  rw [wpOps]; simp only [wpA, ev, Env.get, Env.set, Env.put, reduceIte, Nat.reduceEqDiff, Nat.reduceAdd, reduceCtorEq, Nat.zero_add]
  rw [wpOps]; simp only [wpA, ev, binA, Env.get, Env.set, Env.put, reduceIte, Nat.reduceEqDiff, Nat.reduceAdd, reduceCtorEq, Nat.zero_add]
  refine ⟨trivial, ?_⟩
  rw [wpOps, drop_nil]
  -- the end
  have tail : ∀ (env : Env) (t' : Tok) (σ' : AH), env.get 0 = .lst sz' [] t' → Appended σ .clip σ' t' →
    AW P W none 27 (atEnd [.t 4] fun a σ' => ∃ v st' w', K v st' ∧ st'.env = st.env ∧ HR P W fr0 w' st' σ' ds ∧ VRel P W w' st'.nx v a ∧ Wd.le st.nx w w' ∧ st.nx ≤ st'.nx) [.c (.seq (.reg [⟨(some 26), none, .mv (.t 0)⟩, ⟨(some 4), none, .mv (.t 26)⟩] []) .ret)] env σ' [] := by
   intro env t' σ' h0 ha
   refine AW.seq (AW.reg ?_)
   rw [wpOps]; simp only [wpA, ev, h0]
   rw [wpOps]; simp only [wpA, ev, Env.set, Env.get_put_same]
   rw [wpOps, drop_nil]
   refine AW.ret ?_
   simp only [atEnd, resW, AH.delAll, one1, Env.get_put_same]
   exact ⟨List.nodup_nil, fun b hb => (by cases hb), fin t' σ' ha⟩
  by_cases hn : 0 < n
  ·refine AW.cond (b := true) (by simp [ev, Env.get, hn]) ?_
   refine AW.reg ?_
   rw [wpOps]; simp only [wpA, ev, Env.get, Env.set, Env.put, reduceIte, Nat.reduceEqDiff, Nat.reduceAdd, reduceCtorEq, Nat.zero_add]
   rw [wpOps]; simp only [wpA, ev, Env.get, Env.set, Env.put, reduceIte, Nat.reduceEqDiff, Nat.reduceAdd, reduceCtorEq, Nat.zero_add]
   rw [wpOps]; simp only [wpA, ev, Env.get, Env.set, Env.put, reduceIte, Nat.reduceEqDiff, Nat.reduceAdd, reduceCtorEq, Nat.zero_add, List.length_nil]
   rw [wpOps]; simp only [wpA, ev, Env.get, Env.set, Env.put, reduceIte, Nat.reduceEqDiff, Nat.reduceAdd, reduceCtorEq, Nat.zero_add, List.length_nil, Option.map, bnd]
   refine ⟨trivial, by omega, by omega, by omega, ?_⟩
   simp only [List.take_nil, List.drop_nil, if_true]
   rw [wpOps]; simp only [wpA, ev, Env.get, Env.set, Env.put, reduceIte, Nat.reduceEqDiff, Nat.reduceAdd, reduceCtorEq, Nat.zero_add]
   rw [wpOps]; simp only [wpA, ev, Env.get, Env.set, Env.put, reduceIte, Nat.reduceEqDiff, Nat.reduceAdd, reduceCtorEq, Nat.zero_add]
   refine ⟨trivial, hn, hn1, fun b c hb hc hc63 => ?_⟩
   rw [wpOps]; simp only [wpA, ev, Env.get, Env.set, Env.put, reduceIte, Nat.reduceEqDiff, Nat.reduceAdd, reduceCtorEq, Nat.zero_add]
   rw [wpOps]; simp only [wpA, ev, Env.get, Env.set, Env.put, reduceIte, Nat.reduceEqDiff, Nat.reduceAdd, reduceCtorEq, Nat.zero_add, List.length_nil]
   intro _
   rw [wpOps]; simp only [wpA, ev, Env.get, Env.set, Env.put, reduceIte, Nat.reduceEqDiff, Nat.reduceAdd, reduceCtorEq, Nat.zero_add, List.length_nil, Option.map, bnd]
   refine ⟨trivial, by omega, by omega, by omega, by omega, by omega, .inr ⟨trivial, by omega, trivial, hc63, ?_⟩⟩
   rw [wpOps]; simp only [wpA, ev, Env.get, Env.set, Env.put, reduceIte, Nat.reduceEqDiff, Nat.reduceAdd, reduceCtorEq, Nat.zero_add]
   rw [wpOps, drop_nil]
   refine tail _ _ _ rfl ⟨fun q o hq _ => AH.le_put _ hb _ _ hq, fun q o hq hne => ?_, AH.put_same _ _ _, fun q hq => .inr ?_⟩
   ·have : q ≠ b := by rintro rfl; simp [Tok.isOn] at hne
    rw [AH.put_ne _ _ this] at hq; exact hq
   ·have : b = q := by simpa [Tok.isOn] using hq
    rw [← this]; exact hb
  ·refine AW.cond (b := false) (by simp [ev, Env.get, hn]) (AW.skip ?_)
   exact tail _ .clip σ rfl ⟨fun q o hq _ => hq, fun q o hq _ => hq, trivial, fun q hq => by cases hq⟩
end TW
end Go.AL
