/- Functions of the program: what they return, and that they do. -/
import Derived.Test.YtiolpppbnbboiaaHandD
import Derived.Test.YtiolpppbnbboiaaEvalC

set_option linter.unusedVariables false
set_option linter.unusedSimpArgs false
namespace Sp
open Go.AL
/-- All bindings of variables, behind these. -/
def asg (sy : List Tm) (n : Int) : List ByteArray → List Bnd → List (List Bnd)
  | [], ahead => [ahead]
  | x :: r, ahead => (valsP x sy n).flatMap fun v => asg sy n r (ahead ++ [⟨x, v⟩])
end Sp
namespace Go.AL
open Go.RowKit
set_option linter.unusedVariables false
set_option linter.unusedSectionVars false
set_option linter.unusedSimpArgs false
namespace TS
open TA (Law)
open TG TL TV

def encB (b : Bnd) : AV := .agg (encN3 b)
def encBs (l : List Bnd) : AV := .lst 2 (l.map encB) .none
def BD (a49 a79 : Nat) : AC := (.block 1 (.seq (.dreg [⟨(some 25), none, .ld false 1 (.t 5)⟩, ⟨(some 26), none, .slc 1 (.t 25) (some (.c (.int .i64 1))) none none⟩, ⟨(some 27), none, .ld false 1 (.t 6)⟩, ⟨(some 28), none, .ld false 1 (.t 7)⟩, ⟨(some 29), none, .ld false 1 (.t 8)⟩, ⟨(some 30), none, .call (.c (.fn (.func a79) [] [])) [(.t 29)]⟩, ⟨(some 31), none, .ld false 1 (.t 5)⟩, ⟨(some 32), none, .ia 1 (.t 31) (.c (.int .i64 0))⟩, ⟨(some 33), none, .ld false 1 (.t 32)⟩, ⟨(some 34), none, .mv (.t 11)⟩, ⟨(some 35), none, .build [(.str ⟨#[]⟩), (.lst 3 [] .clip)] [(0, 1, (.t 33)), (1, 1, (.t 34))]⟩, ⟨(some 36), none, .bsl 2 1 (.agg [(.str ⟨#[]⟩), (.lst 3 [] .clip)]) [(0, (.t 35))]⟩, ⟨(some 37), none, .app 2 (.t 30) (.t 36)⟩, ⟨(some 38), none, .ld false 1 (.t 9)⟩] [⟨(some 39), none, .call (.c (.fn (.func a49) [] [])) [(.t 26), (.t 27), (.t 28), (.t 37), (.t 38)]⟩, ⟨(some 40), none, .un .not (.t 39)⟩] [])
        (.cond (.t 40) (.seq (.reg [⟨none, none, .st 1 (.t 10) (.c (.bool false))⟩] [])
          (.ret))
         (.skip))))
def AS : AC := (.reg [⟨(some 11), none, .mv (.t 24)⟩] [])
def TL49 : AC := (.seq (.reg [⟨none, none, .st 1 (.t 10) (.c (.bool true))⟩] [])
    (.ret))
def K49 (a48 a49 a79 : Nat) : AC := .seq (.reg [⟨(some 5), none, .box (.t 0)⟩, ⟨(some 6), none, .box (.t 1)⟩, ⟨(some 7), none, .box (.t 2)⟩, ⟨(some 8), none, .box (.t 3)⟩, ⟨(some 9), none, .box (.t 4)⟩, ⟨(some 10), none, .new [(.bool false)]⟩] [])
 (.seq (.seq (.reg [⟨(some 12), none, .ld false 1 (.t 5)⟩, ⟨(some 13), none, .len (.t 12)⟩, ⟨(some 14), none, .bin .eql (.t 13) (.c (.int .i64 0))⟩] [])
   (.cond (.t 14) (.seq (.reg [⟨(some 15), none, .ld false 1 (.t 9)⟩, ⟨(some 16), none, .ld false 1 (.t 8)⟩, ⟨(some 17), none, .call (.t 15) [(.t 16)]⟩, ⟨none, none, .st 1 (.t 10) (.t 17)⟩] [])
     (.ret))
    (.skip)))
  (.seq (.seq (.dreg [⟨(some 18), none, .ld false 1 (.t 5)⟩, ⟨(some 19), none, .ia 1 (.t 18) (.c (.int .i64 0))⟩, ⟨(some 20), none, .ld false 1 (.t 19)⟩, ⟨(some 21), none, .ld false 1 (.t 6)⟩, ⟨(some 22), none, .ld false 1 (.t 7)⟩] [⟨(some 23), none, .call (.c (.fn (.func a48) [] [])) [(.t 20), (.t 21), (.t 22)]⟩] [])
    (.block 0 (.rangeF (.t 23) [24] AS
      (BD a49 a79))))
   TL49))
def K79 : AC := .seq (.reg [⟨(some 2), none, .mv (.c (.lst 2 [] .clip))⟩] [])
 (.seq (.reg [⟨(some 3), none, .mv (.t 0)⟩, ⟨(some 4), none, .mv (.t 0)⟩, ⟨(some 5), none, .len (.t 4)⟩, ⟨(some 6), none, .mv (.t 0)⟩, ⟨(some 7), none, .len (.t 6)⟩, ⟨(some 8), none, .slc 2 (.t 3) none (some (.t 5)) (some (.t 7))⟩, ⟨(some 2), none, .mv (.t 8)⟩] [])
  (.ret))

structure Codes2 (P : Program) (a48 a49 a79 : Nat) : Prop where
  h49 : codeOf P a49 = some (41, [.cell 10 false 1], K49 a48 a49 a79)
  h79 : codeOf P a79 = some (9, [.t 2], K79)

variable {P : Program} {W : World} {a48 a49 a79 a75 a77 a78 a76 a90 a91 a92 : Nat} {sy : List Tm}

theorem c79 (hc : codeOf P a79 = some (9, [.t 2], K79)) (xs : List AV) (tok : Tok) (σ : AH) : ACall P W a79 [.lst 2 xs tok] σ fun v σ' => v = .lst 2 xs .clip ∧ σ.le σ' := by
  obtain ⟨fn, c, e1, e2, e3, e4, e5, e6⟩ := codeOf_spec hc
  refine acall_of e1 e2 e3 e4 e5 (by rw [e6]; simp) ?_
  rw [e6]
  refine AW.seq (AW.reg ?_)
  rw [wpOps]; simp only [wpA, binA, unA, ev, Env.get, Env.set, Env.put, reduceIte, Nat.reduceEqDiff, reduceCtorEq, List.map, argEnv, Nat.zero_add]
  rw [wpOps, TG.drop_nil]
  refine AW.seq (AW.reg ?_)
  rw [wpOps]; simp only [wpA, binA, unA, ev, Env.get, Env.set, Env.put, reduceIte, Nat.reduceEqDiff, reduceCtorEq, List.map, argEnv, Nat.zero_add]
  rw [wpOps]; simp only [wpA, binA, unA, ev, Env.get, Env.set, Env.put, reduceIte, Nat.reduceEqDiff, reduceCtorEq, List.map, argEnv, Nat.zero_add]
  rw [wpOps]; simp only [wpA, binA, unA, ev, Env.get, Env.set, Env.put, reduceIte, Nat.reduceEqDiff, reduceCtorEq, List.map, argEnv, Nat.zero_add]
  intro hl
  rw [wpOps]; simp only [wpA, binA, unA, ev, Env.get, Env.set, Env.put, reduceIte, Nat.reduceEqDiff, reduceCtorEq, List.map, argEnv, Nat.zero_add]
  rw [wpOps]; simp only [wpA, binA, unA, ev, Env.get, Env.set, Env.put, reduceIte, Nat.reduceEqDiff, reduceCtorEq, List.map, argEnv, Nat.zero_add]
  intro hl
  rw [wpOps]; simp only [wpA, binA, unA, ev, Env.get, Env.set, Env.put, reduceIte, Nat.reduceEqDiff, reduceCtorEq, List.map, argEnv, Nat.zero_add, Option.map, bnd]
  refine ⟨trivial, by omega, by omega, by trivial, by omega, ?_⟩
  rw [wpOps]; simp only [wpA, binA, unA, ev, Env.get, Env.set, Env.put, reduceIte, Nat.reduceEqDiff, reduceCtorEq, List.map]
  rw [wpOps, TG.drop_nil]
  refine AW.ret ?_
  simp only [atEnd, resW, AH.delAll, one1, Env.get, reduceIte, Nat.reduceEqDiff]
  refine ⟨List.nodup_nil, fun b hb => (by cases hb), ?_, AH.le_refl _⟩
  simp

/-- equal.values, called. -/
theorem vals (hC : TL.Codes P a76 a90 a91 a92) (hV : Codes P a48 a75 a77 a78 a76) {v : ByteArray} {n : Nat} {tok : Tok} (hv : 0 < v.size) (hn : n ≤ 1000) (hlen : sy.length ≤ 1000) (σ : AH) :
    ACall P W a48 [.str v, .lst 3 (sy.map encT) tok, .int .i64 n] σ fun a σ' => σ.le σ' ∧ ∃ fz : AH, fz.le σ' ∧ (∀ c, fz c ≠ none → σ c = none) ∧ IterOK P W fz a ((Sp.valsP v sy n).map encL) := by
  obtain ⟨fn, c, e1, e2, e3, e4, e5, e6⟩ := codeOf_spec hV.h48
  refine acall_of e1 e2 e3 e4 e5 (by rw [e6]; simp) ?_
  rw [e6]
  refine AW.seq (AW.reg ?_)
  rw [wpOps]; simp only [wpA, binA, unA, ev, Env.get, Env.set, Env.put, reduceIte, Nat.reduceEqDiff, reduceCtorEq, List.map, argEnv, Nat.reduceAdd, Nat.zero_add, AV.cells]
  refine ⟨rfl, fun b3 hb3 => ?_⟩
  have l3 := AH.le_put (.cells [.str v]) hb3
  have p3 : (σ.put b3 (.cells [.str v])) b3 = _ := AH.put_same _ _ _
  generalize σ.put b3 (.cells [.str v]) = σ3 at l3 p3 ⊢
  rw [wpOps]; simp only [wpA, binA, unA, ev, Env.get, Env.set, Env.put, reduceIte, Nat.reduceEqDiff, reduceCtorEq, List.map, argEnv, Nat.reduceAdd, Nat.zero_add, AV.cells]
  refine ⟨rfl, fun b4 hb4 => ?_⟩
  have l4 := AH.le_put (.cells [.lst 3 (sy.map encT) tok]) hb4
  have p4 : (σ3.put b4 (.cells [.lst 3 (sy.map encT) tok])) b4 = _ := AH.put_same _ _ _
  generalize σ3.put b4 (.cells [.lst 3 (sy.map encT) tok]) = σ4 at l4 p4 ⊢
  rw [wpOps]; simp only [wpA, binA, unA, ev, Env.get, Env.set, Env.put, reduceIte, Nat.reduceEqDiff, reduceCtorEq, List.map, argEnv, Nat.reduceAdd, Nat.zero_add, AV.cells]
  refine ⟨rfl, fun b5 hb5 => ?_⟩
  have l5 := AH.le_put (.cells [.int .i64 n]) hb5
  have p5 : (σ4.put b5 (.cells [.int .i64 n])) b5 = _ := AH.put_same _ _ _
  generalize σ4.put b5 (.cells [.int .i64 n]) = σ5 at l5 p5 ⊢
  rw [wpOps]; simp only [wpA, binA, unA, ev, Env.get, Env.set, Env.put, reduceIte, Nat.reduceEqDiff, reduceCtorEq, List.map, argEnv, Nat.reduceAdd, Nat.zero_add]
  rw [wpOps, TG.drop_nil]
  refine AW.seq (AW.reg ?_)
  rw [wpOps]; simp only [wpA, binA, unA, ev, Env.get, Env.set, Env.put, reduceIte, Nat.reduceEqDiff, reduceCtorEq, List.map]
  rw [wpOps]; simp only [wpA, binA, unA, ev, Env.get, Env.set, Env.put, reduceIte, Nat.reduceEqDiff, reduceCtorEq, List.map]
  intro b7 hb7
  rw [wpOps]; simp only [wpA, binA, unA, ev, Env.get, Env.set, Env.put, reduceIte, Nat.reduceEqDiff, reduceCtorEq, List.map, AH.put_same, AH.put_put, AV.cells, setAt, List.take, List.drop, List.length_cons, List.length_nil, List.set_cons_zero]
  refine ⟨trivial, rfl, by omega, ?_⟩
  have l7 := AH.le_put (.cells [.fn (.func a75) [] [.ptr b4 0]]) hb7
  have p7 : (σ5.put b7 (.cells [.fn (.func a75) [] [.ptr b4 0]])) b7 = _ := AH.put_same _ _ _
  generalize σ5.put b7 (.cells [.fn (.func a75) [] [.ptr b4 0]]) = σ7 at l7 p7 ⊢
  rw [wpOps, TG.drop_nil]
  refine AW.seq (AW.reg ?_)
  rw [wpOps]; simp only [wpA, binA, unA, ev, Env.get, Env.set, Env.put, reduceIte, Nat.reduceEqDiff, reduceCtorEq, List.map]
  rw [wpOps]; simp only [wpA, binA, unA, ev, Env.get, Env.set, Env.put, reduceIte, Nat.reduceEqDiff, reduceCtorEq, List.map]
  rw [wpOps, TG.drop_nil]
  refine AW.ret ?_
  simp only [atEnd, resW, AH.delAll, one1, Env.get, reduceIte, Nat.reduceEqDiff]
  refine ⟨List.nodup_nil, fun b hb => (by cases hb), ?_⟩
  have hall : σ.le σ7 := AH.le_trans l3 (AH.le_trans l4 (AH.le_trans l5 l7))
  let F : AH := fun c => if c = b3 ∨ c = b4 ∨ c = b5 ∨ c = b7 then σ7 c else none
  have s4 : σ b4 = none := AH.none_le l3 hb4
  have s5 : σ b5 = none := AH.none_le l3 (AH.none_le l4 hb5)
  have s7 : σ b7 = none := AH.none_le l3 (AH.none_le l4 (AH.none_le l5 hb7))
  refine ⟨hall, F, fun c o hc => ?_, fun c hc => ?_, ?_⟩
  · simp only [F] at hc
    split at hc
    · exact hc
    · cases hc
  · simp only [F] at hc
    split at hc
    · rename_i h
      rcases h with rfl | rfl | rfl | rfl <;> assumption
    · exact absurd rfl hc
  · have k3 : σ7 b3 = some (.cells [.str v]) := l7 _ _ (l5 _ _ (l4 _ _ p3))
    have k4 : σ7 b4 = some (.cells [.lst 3 (sy.map encT) tok]) := l7 _ _ (l5 _ _ p4)
    have k5 : σ7 b5 = some (.cells [.int .i64 n]) := l7 _ _ p5
    exact iter_ok (P := P) (W := W) hC hV (fz := F) (bv := b3) (bu := b7) (bs := b5) (b4 := b4) (tok := tok) (sy := sy) (v := v) (n := n) hv hn hlen (by simp only [F]; rw [if_pos (by simp)]; exact k3) (by simp only [F]; rw [if_pos (by simp)]; exact p7) (by simp only [F]; rw [if_pos (by simp)]; exact k5) (by simp only [F]; rw [if_pos (by simp)]; exact k4)

def PostS (J : Nat → AH → Prop) (E : AH → Prop) (k : Nat) (φ τ : AH) (v : AV) (τ' : AH) : Prop := ∃ φ', φ'.le τ' ∧ Off φ τ φ' τ' ∧ ((v = .bool true ∧ J k φ') ∨ (v = .bool false ∧ E φ'))
def AsgOK (P : Program) (W : World) (a49 : Nat) (sy : List Tm) (n : Nat) (vars : List ByteArray) : Prop :=
  ∀ (F : AH) (ys : List AV) (J : Nat → AH → Prop) (E : AH → Prop) (y : AV), LawS P W F ys J E y → IsFn y → ∀ (k : Nat) (φ τ : AH) (ahead : List Bnd) (tok1 tok2 tok3 : Tok), HasA ys k ((Sp.asg sy n vars ahead).map encBs) → J k φ → φ.le τ → F.le τ →
    (∀ c, F c ≠ none → φ c = none) → ahead.length + vars.length ≤ 1000 →
    ACall P W a49 [.lst 1 (vars.map .str) tok1, .lst 3 (sy.map encT) tok2, .int .i64 n, .lst 2 (ahead.map encB) tok3, y] τ (PostS J E (k + (Sp.asg sy n vars ahead).length) φ τ)

/-- Stored, and returned. -/
theorem st_ret {J : Nat → AH → Prop} {E : AH → Prop} {kk b10 : Nat} {φ φ' τ0 τ τ' : AH} {env : Env} {v : AV} {K : List AItem} {ds : List Nat} (h10 : τ' b10 = some (.cells [.bool false])) (he : env.get 10 = .ptr b10 0) (hv : ∃ b, v = .bool b) (hτ : τ b10 = none)
    (hds : ds.Nodup ∧ ∀ b ∈ ds, τ' b = some .marks ∧ τ b = none ∧ φ' b = none) (h1 : φ'.le τ') (h2 : Off φ τ φ' τ') (h4 : φ' b10 = none) (h3 : (v = .bool true ∧ J kk φ') ∨ (v = .bool false ∧ E φ')) :
    AW P W none 41 (atEnd [.cell 10 false 1] (PostS J E kk φ τ)) (.c .ret :: K) env (τ'.put b10 (.cells [v])) ds := by
  refine AW.ret ?_
  simp only [atEnd]
  have hb : ∀ b ∈ ds, b ≠ b10 := fun b hb => by
    rintro rfl
    have := (hds.2 b hb).1
    rw [h10] at this; cases this
  refine ⟨hds.1, fun b hm => by rw [AH.put_ne _ _ (hb b hm)]; exact (hds.2 b hm).1, ?_⟩
  have hx : ((τ'.put b10 (.cells [v])).delAll ds) b10 = some (.cells [v]) := by
    rw [delAll_get, if_neg (fun hm => hb _ hm rfl), AH.put_same]
  simp only [resW, he, hx]
  refine ⟨by simp, ?_⟩
  simp only [List.getD_cons_zero, one1]
  have keep : ∀ c o, c ≠ b10 → c ∉ ds → τ' c = some o → ((τ'.put b10 (.cells [v])).delAll ds) c = some o := fun c o g1 g2 g3 => by
    rw [delAll_get, if_neg g2, AH.put_ne _ _ g1]; exact g3
  refine ⟨φ', fun c o hc => keep c o (by rintro rfl; rw [h4] at hc; cases hc) (fun hm => by rw [(hds.2 c hm).2.2] at hc; cases hc) (h1 _ _ hc), fun c o hc1 hc2 => ?_, h3⟩
  obtain ⟨g1, g2⟩ := h2 c o hc1 hc2
  exact ⟨keep c o (by rintro rfl; rw [hτ] at hc2; cases hc2) (fun hm => by rw [(hds.2 c hm).2.1] at hc2; cases hc2) g1, g2⟩

structure Boxes (τ φ τ0 : AH) (b5 b6 b7 b8 b9 b10 : Nat) (v5 v6 v7 v8 v9 : AV) : Prop where
  le : τ.le τ0
  p5 : τ0 b5 = some (.cells [v5])
  p6 : τ0 b6 = some (.cells [v6])
  p7 : τ0 b7 = some (.cells [v7])
  p8 : τ0 b8 = some (.cells [v8])
  p9 : τ0 b9 = some (.cells [v9])
  p10 : τ0 b10 = some (.cells [.bool false])
  n10 : τ b10 = none
  f : ∀ b, b = b5 ∨ b = b6 ∨ b = b7 ∨ b = b8 ∨ b = b9 ∨ b = b10 → φ b = none

def E0 (b5 b6 b7 b8 b9 b10 : Nat) : Env := [(5, .ptr b5 0), (6, .ptr b6 0), (7, .ptr b7 0), (8, .ptr b8 0), (9, .ptr b9 0), (10, .ptr b10 0)]

theorem begins (hc : codeOf P a49 = some (41, [.cell 10 false 1], K49 a48 a49 a79)) {v0 v1 v2 v3 y : AV} {φ τ : AH} {R : AV → AH → Prop} (hφ : φ.le τ) (h0 : v0.ok = true ∧ v0.cells = [v0]) (h1 : v1.ok = true ∧ v1.cells = [v1]) (h2 : v2.ok = true ∧ v2.cells = [v2]) (h3 : v3.ok = true ∧ v3.cells = [v3]) (hy : y.ok = true ∧ y.cells = [y])
    (h : ∀ τ0 b5 b6 b7 b8 b9 b10, Boxes τ φ τ0 b5 b6 b7 b8 b9 b10 v0 v1 v2 v3 y → AW P W none 41 (atEnd [.cell 10 false 1] R) [.c (.seq (.seq (.reg [⟨(some 12), none, .ld false 1 (.t 5)⟩, ⟨(some 13), none, .len (.t 12)⟩, ⟨(some 14), none, .bin .eql (.t 13) (.c (.int .i64 0))⟩] [])
   (.cond (.t 14) (.seq (.reg [⟨(some 15), none, .ld false 1 (.t 9)⟩, ⟨(some 16), none, .ld false 1 (.t 8)⟩, ⟨(some 17), none, .call (.t 15) [(.t 16)]⟩, ⟨none, none, .st 1 (.t 10) (.t 17)⟩] [])
     (.ret))
    (.skip)))
  (.seq (.seq (.dreg [⟨(some 18), none, .ld false 1 (.t 5)⟩, ⟨(some 19), none, .ia 1 (.t 18) (.c (.int .i64 0))⟩, ⟨(some 20), none, .ld false 1 (.t 19)⟩, ⟨(some 21), none, .ld false 1 (.t 6)⟩, ⟨(some 22), none, .ld false 1 (.t 7)⟩] [⟨(some 23), none, .call (.c (.fn (.func a48) [] [])) [(.t 20), (.t 21), (.t 22)]⟩] [])
    (.block 0 (.rangeF (.t 23) [24] AS
      (BD a49 a79))))
   TL49))] (E0 b5 b6 b7 b8 b9 b10) τ0 []) : ACall P W a49 [v0, v1, v2, v3, y] τ R := by
  obtain ⟨fn, c, e1, e2, e3, e4, e5, e6⟩ := codeOf_spec hc
  refine acall_of e1 e2 e3 e4 e5 (by rw [e6]; simp) ?_
  rw [e6]
  refine AW.seq (AW.reg ?_)
  rw [wpOps]; simp only [wpA, binA, unA, ev, Env.get, Env.set, Env.put, reduceIte, Nat.reduceEqDiff, reduceCtorEq, List.map, argEnv, Nat.reduceAdd, Nat.zero_add, h0.2]
  refine ⟨h0.1, fun b5 hb5 => ?_⟩
  have l5 := AH.le_put (.cells [v0]) hb5
  have p5 : (τ.put b5 (.cells [v0])) b5 = _ := AH.put_same _ _ _
  generalize τ.put b5 (.cells [v0]) = τ5 at l5 p5 ⊢
  rw [wpOps]; simp only [wpA, binA, unA, ev, Env.get, Env.set, Env.put, reduceIte, Nat.reduceEqDiff, reduceCtorEq, List.map, argEnv, Nat.reduceAdd, Nat.zero_add, h1.2]
  refine ⟨h1.1, fun b6 hb6 => ?_⟩
  have l6 := AH.le_put (.cells [v1]) hb6
  have p6 : (τ5.put b6 (.cells [v1])) b6 = _ := AH.put_same _ _ _
  generalize τ5.put b6 (.cells [v1]) = τ6 at l6 p6 ⊢
  rw [wpOps]; simp only [wpA, binA, unA, ev, Env.get, Env.set, Env.put, reduceIte, Nat.reduceEqDiff, reduceCtorEq, List.map, argEnv, Nat.reduceAdd, Nat.zero_add, h2.2]
  refine ⟨h2.1, fun b7 hb7 => ?_⟩
  have l7 := AH.le_put (.cells [v2]) hb7
  have p7 : (τ6.put b7 (.cells [v2])) b7 = _ := AH.put_same _ _ _
  generalize τ6.put b7 (.cells [v2]) = τ7 at l7 p7 ⊢
  rw [wpOps]; simp only [wpA, binA, unA, ev, Env.get, Env.set, Env.put, reduceIte, Nat.reduceEqDiff, reduceCtorEq, List.map, argEnv, Nat.reduceAdd, Nat.zero_add, h3.2]
  refine ⟨h3.1, fun b8 hb8 => ?_⟩
  have l8 := AH.le_put (.cells [v3]) hb8
  have p8 : (τ7.put b8 (.cells [v3])) b8 = _ := AH.put_same _ _ _
  generalize τ7.put b8 (.cells [v3]) = τ8 at l8 p8 ⊢
  rw [wpOps]; simp only [wpA, binA, unA, ev, Env.get, Env.set, Env.put, reduceIte, Nat.reduceEqDiff, reduceCtorEq, List.map, argEnv, Nat.reduceAdd, Nat.zero_add, hy.2]
  refine ⟨hy.1, fun b9 hb9 => ?_⟩
  have l9 := AH.le_put (.cells [y]) hb9
  have p9 : (τ8.put b9 (.cells [y])) b9 = _ := AH.put_same _ _ _
  generalize τ8.put b9 (.cells [y]) = τ9 at l9 p9 ⊢
  rw [wpOps]; simp only [wpA, binA, unA, ev, Env.get, Env.set, Env.put, reduceIte, Nat.reduceEqDiff, reduceCtorEq, List.map, argEnv, Nat.reduceAdd, Nat.zero_add]
  intro b10 hb10
  have l10 := AH.le_put (.cells [.bool false]) hb10
  have p10 : (τ9.put b10 (.cells [.bool false])) b10 = _ := AH.put_same _ _ _
  generalize τ9.put b10 (.cells [.bool false]) = τ10 at l10 p10 ⊢
  rw [wpOps, TG.drop_nil]
  have q6 : τ b6 = none := AH.none_le l5 hb6
  have q7 : τ b7 = none := AH.none_le l5 (AH.none_le l6 hb7)
  have q8 : τ b8 = none := AH.none_le l5 (AH.none_le l6 (AH.none_le l7 hb8))
  have q9 : τ b9 = none := AH.none_le l5 (AH.none_le l6 (AH.none_le l7 (AH.none_le l8 hb9)))
  have q10 : τ b10 = none := AH.none_le l5 (AH.none_le l6 (AH.none_le l7 (AH.none_le l8 (AH.none_le l9 hb10))))
  refine AW.forget (env' := E0 b5 b6 b7 b8 b9 b10) (fun u => ?_) (h τ10 b5 b6 b7 b8 b9 b10 ⟨AH.le_trans l5 (AH.le_trans l6 (AH.le_trans l7 (AH.le_trans l8 (AH.le_trans l9 l10)))), l10 _ _ (l9 _ _ (l8 _ _ (l7 _ _ (l6 _ _ p5)))), l10 _ _ (l9 _ _ (l8 _ _ (l7 _ _ p6))), l10 _ _ (l9 _ _ (l8 _ _ p7)), l10 _ _ (l9 _ _ p8), l10 _ _ p9, p10, q10, fun b hb => ?_⟩)
  · simp only [E0, Env.get]
    by_cases h5 : 5 = u
    · subst h5; simp
    by_cases h6 : 6 = u
    · subst h6; simp
    by_cases h7 : 7 = u
    · subst h7; simp
    by_cases h8 : 8 = u
    · subst h8; simp
    by_cases h9 : 9 = u
    · subst h9; simp
    by_cases h10 : 10 = u
    · subst h10; simp
    simp [h5, h6, h7, h8, h9, h10]
  · rcases hb with rfl | rfl | rfl | rfl | rfl | rfl
    · exact AH.none_le hφ hb5
    · exact AH.none_le hφ q6
    · exact AH.none_le hφ q7
    · exact AH.none_le hφ q8
    · exact AH.none_le hφ q9
    · exact AH.none_le hφ q10

theorem asg_nil (hc : codeOf P a49 = some (41, [.cell 10 false 1], K49 a48 a49 a79)) {n : Nat} : AsgOK P W a49 sy n [] := by
  intro F ys J E y hL hyn k φ τ ahead tok1 tok2 tok3 hh hJ hφ hF hdis hlen
  refine begins hc hφ ⟨rfl, rfl⟩ ⟨rfl, rfl⟩ ⟨rfl, rfl⟩ ⟨rfl, rfl⟩ hyn.ok fun τ0 b5 b6 b7 b8 b9 b10 hB => ?_
  refine AW.seq (AW.seq (AW.reg ?_))
  simp only [E0]
  rw [wpOps]; simp only [wpA, binA, unA, ev, Env.get, Env.set, Env.put, reduceIte, Nat.reduceEqDiff, reduceCtorEq, List.map, hB.p5]
  refine ⟨by simp, ?_⟩
  simp only [List.getD_cons_zero]
  rw [wpOps]; simp only [wpA, binA, unA, ev, Env.get, Env.set, Env.put, reduceIte, Nat.reduceEqDiff, reduceCtorEq, List.map]
  intro hl
  rw [wpOps]; simp only [wpA, binA, unA, ev, Env.get, Env.set, Env.put, reduceIte, Nat.reduceEqDiff, reduceCtorEq, List.map]
  refine ⟨trivial, ?_⟩
  rw [wpOps, TG.drop_nil]
  refine AW.cond (b := true) (by simp [ev, Env.get]) ?_
  refine AW.seq (AW.reg ?_)
  rw [wpOps]; simp only [wpA, binA, unA, ev, Env.get, Env.set, Env.put, reduceIte, Nat.reduceEqDiff, reduceCtorEq, List.map, hB.p9]
  refine ⟨by simp, ?_⟩
  simp only [List.getD_cons_zero]
  rw [wpOps]; simp only [wpA, binA, unA, ev, Env.get, Env.set, Env.put, reduceIte, Nat.reduceEqDiff, reduceCtorEq, List.map, hB.p8]
  refine ⟨by simp, ?_⟩
  simp only [List.getD_cons_zero]
  rw [wpOps]; simp only [wpA, binA, unA, ev, Env.get, Env.set, Env.put, reduceIte, Nat.reduceEqDiff, reduceCtorEq, List.map]
  have hy0 : ys[k]? = some (encBs ahead) := hh 0 _ rfl
  refine wpA_mono_call (ACallV.bareArg (x := .lst 2 (ahead.map encB) tok3) (hL.step k (encBs ahead) φ τ0 hy0 hJ (AH.le_trans hφ hB.le) (AH.le_trans hF hB.le) hdis)) fun v τ2 ⟨φ', g1, g2, g3⟩ => ?_
  have h10 := g2 b10 _ (hB.f b10 (by simp)) hB.p10
  rw [wpOps]; simp only [wpA, binA, unA, ev, Env.get, Env.set, Env.put, reduceIte, Nat.reduceEqDiff, reduceCtorEq, List.map, h10.1, AV.cells, setAt, List.take, List.drop, List.length_cons, List.length_nil, List.set_cons_zero]
  have hvb : ∃ b, v = .bool b := by rcases g3 with ⟨rfl, _⟩ | ⟨rfl, _⟩ <;> exact ⟨_, rfl⟩
  obtain ⟨vb, rfl⟩ := hvb
  refine ⟨by simp [AV.cells], by simp [AV.ok, AV.cells, AV.one], by simp, ?_⟩
  rw [wpOps, TG.drop_nil]
  simp only [AV.cells, setAt, List.set_cons_zero]
  exact st_ret (kk := k + 1) (τ0 := τ0) h10.1 (by simp [Env.get]) ⟨_, rfl⟩ hB.n10 ⟨List.nodup_nil, fun b hb => (by cases hb)⟩ g1 (fun c o hc1 hc2 => g2 c o hc1 (hB.le _ _ hc2)) h10.2 g3

theorem put_self {σ : AH} {b : Nat} {o : AObj} (h : σ b = some o) : σ.put b o = σ := by
  funext c
  by_cases hc : c = b
  · subst hc; rw [AH.put_same, h]
  · rw [AH.put_ne _ _ hc]

def E1 (b5 b6 b7 b8 b9 b10 : Nat) (a : AV) : Env := [(5, .ptr b5 0), (6, .ptr b6 0), (7, .ptr b7 0), (8, .ptr b8 0), (9, .ptr b9 0), (10, .ptr b10 0), (23, a)]

theorem bs1 (x : ByteArray) (v : List Tm) : putElems 2 (List.replicate 1 (AV.agg [AV.str ⟨#[]⟩, AV.lst 3 [] Tok.clip]).bare) [(0, AV.agg [.str x, encL v])] = some [encB ⟨x, v⟩] := by
  simp [putElems, AV.cells, AV.ok, AV.one, AV.bare, AV.bare1, encB, encN3, encL]

section
variable {F : AH} {ys : List AV} {J : Nat → AH → Prop} {E : AH → Prop} {y : AV}

/-- A round. -/
theorem round (h79 : codeOf P a79 = some (9, [.t 2], K79)) {n : Nat} {r : List ByteArray} (ih : AsgOK P W a49 sy n r) (hL : LawS P W F ys J E y) (hyn : IsFn y) {k0 : Nat} {φ' τs : AH} {ahead : List Bnd} {x : ByteArray} {v : List Tm} {tok1 tok2 tok3 : Tok}
    {b5 b6 b7 b8 b9 b10 l : Nat} {fi ra rb df dl} {a : AV} (hrec : τs l = some (.loop .ready none fi 41 (E1 b5 b6 b7 b8 b9 b10 a) [24] ra rb df)) (hra : comp P 41 dl ra = some AS) (hrb : comp P 41 dl rb = some (BD a49 a79))
    (p5 : τs b5 = some (.cells [.lst 1 ((x :: r).map .str) tok1])) (p6 : τs b6 = some (.cells [.lst 3 (sy.map encT) tok2])) (p7 : τs b7 = some (.cells [.int .i64 n])) (p8 : τs b8 = some (.cells [.lst 2 (ahead.map encB) tok3])) (p9 : τs b9 = some (.cells [y]))
    (p10 : τs b10 = some (.cells [.bool false])) (q10 : φ' b10 = none) (ql : φ' l = none)
    (hh : HasA ys k0 ((Sp.asg sy n r (ahead ++ [Bnd.mk x v])).map encBs)) (hJ : J k0 φ') (hφ : φ'.le τs) (hF : F.le τs) (hFl : F l = none) (hdis : ∀ c, F c ≠ none → φ' c = none) (hlen : ahead.length + (x :: r).length ≤ 1000) {R : AV → AH → Prop}
    (hR1 : ∀ φ'' τ3, φ''.le τ3 → (∀ c o, c ≠ l → φ' c = none → τs c = some o → τ3 c = some o ∧ φ'' c = none) → φ'' l = none → τ3 l = some (.loop .ready none fi 41 (E1 b5 b6 b7 b8 b9 b10 a) [24] ra rb df) → J (k0 + (Sp.asg sy n r (ahead ++ [Bnd.mk x v])).length) φ'' → R (.bool true) τ3)
    (hR2 : ∀ φ'' τ3, φ''.le τ3 → (∀ c o, c ≠ l → φ' c = none → τs c = some o → τ3 c = some o ∧ φ'' c = none) → φ'' l = none → τ3 l = some (.loop .done (some .ret) fi 41 (E1 b5 b6 b7 b8 b9 b10 a) [24] ra rb df) → E φ'' → R (.bool false) τ3) :
    AYield P W l [encL v] τs R := by
  refine ayield_of (ps := [24]) (asg := AS) (body := BD a49 a79) ⟨fi, ra, rb, df, dl, hrec, hra, hrb⟩ (by simp) rfl ?_
  refine AW.reg ?_
  simp only [Env.puts, E1]
  rw [wpOps]; simp only [wpA, binA, unA, ev, Env.get, Env.set, Env.put, reduceIte, Nat.reduceEqDiff, reduceCtorEq, List.map]
  rw [wpOps, TG.drop_nil]
  refine AW.bgn hrec ?_
  have e3 : AL.setLoop τs l .busy none = τs.put l (.loop .busy none fi 41 (E1 b5 b6 b7 b8 b9 b10 a) [24] ra rb df) := by simp [AL.setLoop, hrec]
  rw [e3]
  have ne : ∀ c (vs : List AV), τs c = some (.cells vs) → c ≠ l := fun c vs hc => by rintro rfl; rw [hrec] at hc; cases hc
  have t5 := (AH.put_ne τs (.loop .busy none fi 41 (E1 b5 b6 b7 b8 b9 b10 a) [24] ra rb df) (ne _ _ p5)).trans p5
  have t6 := (AH.put_ne τs (.loop .busy none fi 41 (E1 b5 b6 b7 b8 b9 b10 a) [24] ra rb df) (ne _ _ p6)).trans p6
  have t7 := (AH.put_ne τs (.loop .busy none fi 41 (E1 b5 b6 b7 b8 b9 b10 a) [24] ra rb df) (ne _ _ p7)).trans p7
  have t8 := (AH.put_ne τs (.loop .busy none fi 41 (E1 b5 b6 b7 b8 b9 b10 a) [24] ra rb df) (ne _ _ p8)).trans p8
  have t9 := (AH.put_ne τs (.loop .busy none fi 41 (E1 b5 b6 b7 b8 b9 b10 a) [24] ra rb df) (ne _ _ p9)).trans p9
  have t10 := (AH.put_ne τs (.loop .busy none fi 41 (E1 b5 b6 b7 b8 b9 b10 a) [24] ra rb df) (ne _ _ p10)).trans p10
  have tl := AH.put_same τs l (.loop .busy none fi 41 (E1 b5 b6 b7 b8 b9 b10 a) [24] ra rb df)
  have tn := fun c (h : c ≠ l) => AH.put_ne τs (.loop .busy none fi 41 (E1 b5 b6 b7 b8 b9 b10 a) [24] ra rb df) h
  have tφ : φ'.le (τs.put l (.loop .busy none fi 41 (E1 b5 b6 b7 b8 b9 b10 a) [24] ra rb df)) := fun c o hc => by
    rw [tn c (by rintro rfl; rw [ql] at hc; cases hc)]; exact hφ _ _ hc
  have tF : F.le (τs.put l (.loop .busy none fi 41 (E1 b5 b6 b7 b8 b9 b10 a) [24] ra rb df)) := fun c o hc => by
    rw [tn c (by rintro rfl; rw [hFl] at hc; cases hc)]; exact hF _ _ hc
  generalize τs.put l (.loop .busy none fi 41 (E1 b5 b6 b7 b8 b9 b10 a) [24] ra rb df) = τb at t5 t6 t7 t8 t9 t10 tl tn tφ tF ⊢
  refine AW.block (AW.seq (AW.dreg ?_))
  have hput : putParts [.str ⟨#[]⟩, .lst 3 [] .clip] [(0, 1, .str x), (1, 1, encL v)] = some [.str x, encL v] := by
    simp [putParts, AV.cells, AV.ok, AV.one, encL, setAt]
  have e0 : Int.toNat 0 = 0 := rfl
  have e1 : Int.toNat 1 = 1 := rfl
  simp only [wpD, wpH, wpA, AOp.isNew, ev, Env.get, Env.set, Env.put, reduceIte, Nat.reduceEqDiff, Nat.reduceAdd, reduceCtorEq, t5, t6, t7, t8, t9, List.map, hput, Option.map, bnd, List.getD_cons_zero, e0, e1, AV.cells, List.headD_cons]
  rw [bs1]
  refine ⟨by simp, trivial, by omega, by simp; omega, by simp, by simp, by simp, by simp, .lst 2 (ahead.map encB) .clip, fun σ _ => (c79 h79 _ _ σ).mono fun v σ' ⟨h1, h2⟩ => ⟨.inl h1, h2⟩, by simp, trivial, by omega, by simp, by simp, by simp [AV.one], by simp [AV.cells], by simp [AV.cells, AV.ok, AV.one], rfl, rfl, by simp; simp at hlen; omega, by simp, ?_⟩
  intro τ2 hτ2
  simp only [newsOf, AOp.isNew, wpNews]
  rw [wpOps]; simp only [wpA, binA, unA, ev, Env.get, Env.set, Env.put, reduceIte, Nat.reduceEqDiff, reduceCtorEq, List.map]
  have eA : ((x :: r).map AV.str).length = r.length + 1 := by simp
  have eB : List.drop 1 (List.take (Int.toNat ↑((AV.str x :: r.map AV.str).length)) (AV.str x :: r.map AV.str)) = r.map .str := by
    rw [Int.toNat_natCast, List.take_length]; rfl
  have eC : ahead.map encB ++ [encB (Bnd.mk x v)] = (ahead ++ [Bnd.mk x v]).map encB := by simp
  rw [eB, eC]
  refine wpA_mono_call (show ACallV P W (AV.fn (Fn.func a49) [] []) [.lst 1 (r.map .str) .none, .lst 3 (sy.map encT) tok2, .int .i64 n, .lst 2 ((ahead ++ [Bnd.mk x v]).map encB) .none, y] τ2 _ from
    ih F ys J E y hL hyn k0 φ' τ2 (ahead ++ [Bnd.mk x v]) .none tok2 .none hh hJ (AH.le_trans tφ hτ2) (AH.le_trans tF hτ2) hdis (by simp at hlen ⊢; omega)) fun u τ3 ⟨φ'', g1, g2, g3⟩ => ?_
  have gl := g2 l _ ql (hτ2 _ _ tl)
  have g10 := g2 b10 _ q10 (hτ2 _ _ t10)
  have hoff : ∀ c o, c ≠ l → φ' c = none → τs c = some o → τ3 c = some o ∧ φ'' c = none := fun c o h1 h2 h3 => g2 c o h2 (hτ2 _ _ (by rw [tn c h1]; exact h3))
  have put_l : ∀ (o : AObj), φ''.le (τ3.put l o) := fun o c x hc => by
    rw [AH.put_ne _ _ (by rintro rfl; rw [gl.2] at hc; cases hc)]; exact g1 _ _ hc
  rcases g3 with ⟨rfl, g3⟩ | ⟨rfl, g3⟩
  · rw [wpOps]; simp only [wpA, binA, unA, ev, Env.get, Env.set, Env.put, reduceIte, Nat.reduceEqDiff, reduceCtorEq, List.map, Bool.not_true]
    rw [wpOps, TG.drop_nil]
    refine AW.cond (b := false) (by simp [ev, Env.get]) ?_
    refine AW.skip (AW.blk (AW.fin ?_))
    refine show isLoopNow τ3 l ∧ _ from ⟨⟨_, _, _, _, _, _, _, _, _, gl.1⟩, ?_⟩
    have e4 : AL.setLoop τ3 l .ready none = τ3.put l (.loop .ready none fi 41 (E1 b5 b6 b7 b8 b9 b10 a) [24] ra rb df) := by simp [AL.setLoop, gl.1]
    rw [e4]
    exact hR1 φ'' _ (put_l _) (fun c o h1 h2 h3 => by rw [AH.put_ne _ _ h1]; exact hoff c o h1 h2 h3) gl.2 (AH.put_same _ _ _) g3
  · rw [wpOps]; simp only [wpA, binA, unA, ev, Env.get, Env.set, Env.put, reduceIte, Nat.reduceEqDiff, reduceCtorEq, List.map, Bool.not_false]
    rw [wpOps, TG.drop_nil]
    refine AW.cond (b := true) (by simp [ev, Env.get]) ?_
    refine AW.seq (AW.reg ?_)
    rw [wpOps]; simp only [wpA, binA, unA, ev, Env.get, Env.set, Env.put, reduceIte, Nat.reduceEqDiff, reduceCtorEq, List.map, g10.1, AV.cells, setAt, List.take, List.drop, List.length_cons, List.length_nil, List.set_cons_zero]
    refine ⟨trivial, by simp [AV.ok, AV.cells, AV.one], by simp, ?_⟩
    rw [wpOps, TG.drop_nil, put_self g10.1]
    refine AW.ret ?_
    refine show isLoopNow τ3 l ∧ _ from ⟨⟨_, _, _, _, _, _, _, _, _, gl.1⟩, ?_⟩
    have e4 : AL.setLoop τ3 l .done (some .ret) = τ3.put l (.loop .done (some .ret) fi 41 (E1 b5 b6 b7 b8 b9 b10 a) [24] ra rb df) := by simp [AL.setLoop, gl.1]
    rw [e4]
    exact hR2 φ'' _ (put_l _) (fun c o h1 h2 h3 => by rw [AH.put_ne _ _ h1]; exact hoff c o h1 h2 h3) gl.2 (AH.put_same _ _ _) g3
end

theorem flat_len {α β : Type} {f : α → List β} {l : List α} {j : Nat} {v : α} (h : l[j]? = some v) : ((l.take (j + 1)).flatMap f).length = ((l.take j).flatMap f).length + (f v).length := by
  rw [List.take_add_one, h]; simp
theorem hasA_at {α β : Type} {ys : List AV} {g : β → AV} {f : α → List β} {l : List α} {k j : Nat} {v : α} (hh : HasA ys k ((l.flatMap f).map g)) (h : l[j]? = some v) : HasA ys (k + ((l.take j).flatMap f).length) ((f v).map g) := by
  have hj : j < l.length := by
    rcases Nat.lt_or_ge j l.length with h1 | h1
    · exact h1
    · rw [List.getElem?_eq_none h1] at h; cases h
  have e : l = l.take j ++ v :: l.drop (j + 1) := by
    rw [List.getElem?_eq_getElem hj] at h; cases h
    rw [← List.drop_eq_getElem_cons hj, List.take_append_drop]
  rw [e, List.flatMap_append, List.flatMap_cons, List.map_append, List.map_append] at hh
  have h2 := hh.app.2.app.1
  rw [List.length_map] at h2
  exact h2

theorem asg_cons (hC : TL.Codes P a76 a90 a91 a92) (hV : Codes P a48 a75 a77 a78 a76) (hK : Codes2 P a48 a49 a79) {n : Nat} {x : ByteArray} {r : List ByteArray} (hx : 0 < x.size) (hn : n ≤ 1000) (hlen0 : sy.length ≤ 1000) (ih : AsgOK P W a49 sy n r) : AsgOK P W a49 sy n (x :: r) := by
  intro F ys J E y hL hyn k φ τ ahead tok1 tok2 tok3 hh hJ hφ hF hdis hlen
  refine begins hK.h49 hφ ⟨rfl, rfl⟩ ⟨rfl, rfl⟩ ⟨rfl, rfl⟩ ⟨rfl, rfl⟩ hyn.ok fun τ0 b5 b6 b7 b8 b9 b10 hB => ?_
  refine AW.seq (AW.seq (AW.reg ?_))
  simp only [E0]
  rw [wpOps]; simp only [wpA, binA, unA, ev, Env.get, Env.set, Env.put, reduceIte, Nat.reduceEqDiff, reduceCtorEq, List.map, hB.p5]
  refine ⟨by simp, ?_⟩
  simp only [List.getD_cons_zero]
  rw [wpOps]; simp only [wpA, binA, unA, ev, Env.get, Env.set, Env.put, reduceIte, Nat.reduceEqDiff, reduceCtorEq, List.map]
  intro hl
  rw [wpOps]; simp only [wpA, binA, unA, ev, Env.get, Env.set, Env.put, reduceIte, Nat.reduceEqDiff, reduceCtorEq, List.map]
  refine ⟨trivial, ?_⟩
  rw [wpOps, TG.drop_nil]
  refine AW.cond (b := false) (by simp [ev, Env.get]; omega) ?_
  refine AW.skip (AW.seq (AW.seq (AW.dreg ?_)))
  have e0 : Int.toNat 0 = 0 := rfl
  simp only [wpD, wpH, wpA, AOp.isNew, ev, Env.get, Env.set, Env.put, reduceIte, Nat.reduceEqDiff, Nat.reduceAdd, reduceCtorEq, hB.p5, hB.p6, hB.p7, List.map, List.getD_cons_zero, e0, AV.cells, List.headD_cons]
  refine ⟨by simp, trivial, by omega, by simp, by simp, by simp, by simp, ?_⟩
  intro τ1 hτ1
  simp only [newsOf, AOp.isNew, wpNews]
  rw [wpOps]; simp only [wpA, binA, unA, ev, Env.get, Env.set, Env.put, reduceIte, Nat.reduceEqDiff, reduceCtorEq, List.map]
  refine wpA_mono_call (show ACallV P W (AV.fn (Fn.func a48) [] []) [.str x, .lst 3 (sy.map encT) tok2, .int .i64 n] τ1 _ from vals hC hV hx hn hlen0 τ1) fun a τ2 ⟨hle2, fz, hfz, hnew, hit⟩ => ?_
  rw [wpOps, TG.drop_nil]
  have hall : τ0.le τ2 := AH.le_trans hτ1 hle2
  refine AW.forget (env' := E1 b5 b6 b7 b8 b9 b10 a) (fun u => ?_) ?_
  · simp only [E1, Env.get]
    by_cases h5 : 5 = u
    · subst h5; simp
    by_cases h6 : 6 = u
    · subst h6; simp
    by_cases h7 : 7 = u
    · subst h7; simp
    by_cases h8 : 8 = u
    · subst h8; simp
    by_cases h9 : 9 = u
    · subst h9; simp
    by_cases h10 : 10 = u
    · subst h10; simp
    by_cases h23 : 23 = u
    · subst h23; simp
    simp [h5, h6, h7, h8, h9, h10, h23]
  obtain ⟨g, first, cap, rfl, hiter⟩ := hit
  let a0 : AV := .fn (.func g) first cap
  let env1 := E1 b5 b6 b7 b8 b9 b10 a0
  refine AW.block (AW.rangeF (g := g) (first := first) (cap := cap) (by simp [ev, E1, Env.get]) fun b l hb hl2 hlb σ1 hσ1b hσ1 hloop hps => ?_)
  obtain ⟨fi, ra, rb, df, dl, hrec, hra, hrb⟩ := hloop
  have hσ2 : τ2.le σ1 := fun c o hc => by
    rw [hσ1 c (by rintro rfl; rw [hb] at hc; cases hc) (by rintro rfl; rw [hl2] at hc; cases hc)]; exact hc
  have hττ2 : τ.le τ2 := AH.le_trans hB.le hall
  have hφ2 : φ.le τ2 := AH.le_trans hφ hττ2
  have hF2 : F.le τ2 := AH.le_trans hF hττ2
  have hφb : φ b = none := AH.none_le hφ2 hb
  have hφl : φ l = none := AH.none_le hφ2 hl2
  have hFl : F l = none := AH.none_le hF2 hl2
  let vs := Sp.valsP x sy n
  let f : List Tm → List (List Bnd) := fun v => Sp.asg sy n r (ahead ++ [⟨x, v⟩])
  let at_ : Nat → Nat := fun j => k + ((vs.take j).flatMap f).length
  have hasg : Sp.asg sy n (x :: r) ahead = vs.flatMap f := rfl
  let rec_ : LoopState → Option Code → AObj := fun s pd => .loop s pd fi 41 env1 [24] ra rb df
  let Jr : Nat → AH → AH → Prop := fun j I τs => I.le τs ∧ I l = none ∧ τs l = some (rec_ .ready none) ∧ τs b = some .marks ∧ ∃ φ', J (at_ j) φ' ∧ φ'.le τs ∧ φ' l = none ∧ φ' b = none ∧ Off φ τ2 φ' τs ∧ (∀ c, I c ≠ none → φ' c = none)
  let Er : AH → AH → Prop := fun I τs => I.le τs ∧ I l = none ∧ τs l = some (rec_ .done (some .ret)) ∧ τs b = some .marks ∧ ∃ φ', E φ' ∧ φ'.le τs ∧ φ' l = none ∧ φ' b = none ∧ Off φ τ2 φ' τs
  have hend := hiter Jr Er (.fn (.yield l) [] []) σ1 ⟨_, _, _, rfl⟩ (fun j I τs h => h.1) ?_ (fun j I τs I' ⟨h1, h2, h3, h4, φ', h5, h6, h7, h8, h9, h10⟩ hI => ⟨AH.le_trans hI h1, AH.none_le hI h2, h3, h4, φ', h5, h6, h7, h8, h9, fun c hc => h10 c fun hn => hc (AH.none_le hI hn)⟩)
    (fun I τs τ' ⟨h1, h2, h3, h4, φ', h5, h6, h7, h8, h9⟩ hle => ⟨AH.le_trans h1 hle, h2, hle _ _ h3, hle _ _ h4, φ', h5, AH.le_trans h6 hle, h7, h8, h9.grow hle⟩) (fun I τs I' ⟨h1, h2, h3⟩ hI => ⟨AH.le_trans hI h1, AH.none_le hI h2, h3⟩) ?_ ?_
  · refine hend.mono fun v τs hτ => ?_
    have fin : ∀ (s : LoopState) (pd : Option Code) (vb : Bool) (φ' : AH) (K : List AItem), τs l = some (rec_ s pd) → τs b = some .marks → φ'.le τs → φ' l = none → φ' b = none → Off φ τ2 φ' τs → ((AV.bool vb = .bool true ∧ J (k + (Sp.asg sy n (x :: r) ahead).length) φ') ∨ (AV.bool vb = .bool false ∧ E φ')) →
        (τs.del l) b10 = some (.cells [.bool false]) ∧ AW P W none 41 (atEnd [.cell 10 false 1] (PostS J E (k + (Sp.asg sy n (x :: r) ahead).length) φ τ)) (.c .ret :: K) env1 ((τs.del l).put b10 (.cells [.bool vb])) [b] := by
      intro s pd vb φ' K h1 h2 h3 h4 h5 h6 h7
      have dne : ∀ c o, c ≠ l → τs c = some o → (τs.del l) c = some o := fun c o h1 h2 => by simp only [AH.del, h1, if_false]; exact h2
      have h10 : τ2 b10 = some (.cells [.bool false]) := hall _ _ hB.p10
      have hbl : b10 ≠ l := by rintro rfl; rw [hl2] at h10; cases h10
      have hk := h6 b10 _ (hB.f b10 (by simp)) h10
      have h10' := dne b10 _ hbl hk.1
      refine ⟨h10', st_ret (τ0 := τ0) h10' (by simp [env1, E1, Env.get]) ⟨_, rfl⟩ hB.n10 ⟨by simp, fun c hc => ?_⟩ (fun c o hc => dne c o (by rintro rfl; rw [h4] at hc; cases hc) (h3 _ _ hc)) (fun c o hc1 hc2 => ?_) hk.2 h7⟩
      · simp only [List.mem_singleton] at hc
        subst hc
        exact ⟨dne _ _ (fun h => hlb h.symm) h2, AH.none_le hττ2 hb, h5⟩
      · have hc3 := hττ2 _ _ hc2
        obtain ⟨g1, g2⟩ := h6 c o hc1 hc3
        exact ⟨dne c o (by rintro rfl; rw [hl2] at hc3; cases hc3) g1, g2⟩
    rcases hτ with ⟨h1, h2, h3, h4, φ', h5, h6, h7, h8, h9, h10⟩ | ⟨h1, h2, h3, h4, φ', h5, h6, h7, h8, h9⟩
    · simp only [afterRange, h3, rec_]
      refine ⟨by simp, AW.blk (AW.seq (AW.reg ?_))⟩
      have hj : J (k + (Sp.asg sy n (x :: r) ahead).length) φ' := by
        have : at_ (List.map encL vs).length = k + (Sp.asg sy n (x :: r) ahead).length := by
          simp only [at_, List.length_map, List.take_length, hasg]
        rw [← this]; exact h5
      obtain ⟨k1, k2⟩ := fin .ready none true φ' [] h3 h4 h6 h7 h8 h9 (.inl ⟨rfl, hj⟩)
      simp only [env1, E1] at k2 ⊢
      rw [wpOps]; simp only [wpA, binA, unA, ev, Env.get, Env.set, Env.put, reduceIte, Nat.reduceEqDiff, reduceCtorEq, List.map, k1, AV.cells, setAt, List.take, List.drop, List.length_cons, List.length_nil, List.set_cons_zero]
      refine ⟨trivial, by simp [AV.ok, AV.cells, AV.one], by simp, ?_⟩
      rw [wpOps, TG.drop_nil]
      exact k2
    · simp only [afterRange, h3, rec_]
      refine ⟨by simp, ?_⟩
      obtain ⟨k1, k2⟩ := fin .done (some .ret) false φ' [.blk 0, .c TL49] h3 h4 h6 h7 h8 h9 (.inr ⟨rfl, h5⟩)
      rw [put_self k1] at k2
      exact k2
  · rintro j I τs I' τ' ⟨h1, h2, h3, h4, φ', h5, h6, h7, h8, h9, h10⟩ hle hI hI' hfresh
    refine ⟨hI', ?_, hle _ _ h3, hle _ _ h4, φ', h5, AH.le_trans h6 hle, h7, h8, h9.grow hle, fun c hc => ?_⟩
    · cases hx : I' l with
      | none => rfl
      | some o =>
        have := hfresh l (by rw [hx]; simp) h2
        rw [h3] at this; cases this
    · by_cases hIc : I c = none
      · exact AH.none_le h6 (hfresh c hc hIc)
      · exact h10 c hIc
  · -- at the start
    refine ⟨AH.le_trans hfz hσ2, AH.none_le hfz hl2, hrec, hσ1b, φ, by simpa [at_] using hJ, AH.le_trans hφ2 hσ2, hφl, hφb, fun c o h1 h2 => ⟨hσ2 _ _ h2, h1⟩, fun c hc => ?_⟩
    have h1 := hnew c hc
    exact AH.none_le (AH.le_trans hφ (AH.le_trans hB.le hτ1)) h1
  · -- a round
    rintro j xv I τs hxv ⟨h1, h2, h3, h4, φ', h5, h6, h7, h8, h9, h10⟩
    rw [List.getElem?_map] at hxv
    cases hv : vs[j]? with
    | none => rw [show (Sp.valsP x sy n)[j]? = none from hv] at hxv; cases hxv
    | some v =>
      rw [show (Sp.valsP x sy n)[j]? = some v from hv] at hxv
      cases hxv
      have hb : ∀ bx o, (bx = b5 ∨ bx = b6 ∨ bx = b7 ∨ bx = b8 ∨ bx = b9 ∨ bx = b10) → τ0 bx = some o → τs bx = some o ∧ φ' bx = none := fun bx o hm ho => h9 bx o (hB.f bx hm) (hall _ _ ho)
      obtain ⟨hFs, hFd⟩ := h9.le hF2 hdis
      have hat : at_ j + (f v).length = at_ (j + 1) := by simp only [at_, flat_len hv, Nat.add_assoc]
      show AYield P W l [encL v] τs _
      refine round hK.h79 ih hL hyn (k0 := at_ j) (φ' := φ') (ahead := ahead) h3 hra hrb (hb b5 _ (by simp) hB.p5).1 (hb b6 _ (by simp) hB.p6).1 (hb b7 _ (by simp) hB.p7).1 (hb b8 _ (by simp) hB.p8).1 (hb b9 _ (by simp) hB.p9).1 (hb b10 _ (by simp) hB.p10).1 (hb b10 _ (by simp) hB.p10).2 h7
        (hasA_at (g := encBs) (f := f) (l := vs) (by rw [hasg] at hh; exact hh) hv) h5 h6 hFs hFl hFd hlen (fun φ'' τ3 g1 g2 g3 g4 g5 => ?_) (fun φ'' τ3 g1 g2 g3 g4 g5 => ?_)
      all_goals
        have hIτ : I.le τ3 := fun c o hc => (g2 c o (by rintro rfl; rw [h2] at hc; cases hc) (h10 c (by rw [hc]; simp)) (h1 _ _ hc)).1
        have hb3 := g2 b _ (fun h => hlb h.symm) h8 h4
        have hoff : Off φ τ2 φ'' τ3 := fun c o hc1 hc2 => by
          obtain ⟨q1, q2⟩ := h9 c o hc1 hc2
          exact g2 c o (by rintro rfl; rw [hl2] at hc2; cases hc2) q2 q1
      · refine ⟨hIτ, .inl ⟨rfl, hIτ, h2, g4, hb3.1, φ'', by rw [← hat]; exact g5, g1, g3, hb3.2, hoff, fun c hc => ?_⟩⟩
        cases hx : I c with
        | none => exact absurd hx hc
        | some o => exact (g2 c o (by rintro rfl; rw [h2] at hx; cases hx) (h10 c hc) (h1 _ _ hx)).2
      · exact ⟨hIτ, .inr ⟨rfl, hIτ, h2, g4, hb3.1, φ'', g5, g1, g3, hb3.2, hoff⟩⟩

theorem asg_ok (hC : TL.Codes P a76 a90 a91 a92) (hV : Codes P a48 a75 a77 a78 a76) (hK : Codes2 P a48 a49 a79) {n : Nat} (hn : n ≤ 1000) (hlen0 : sy.length ≤ 1000) : ∀ vars : List ByteArray, (∀ x ∈ vars, 0 < x.size) → AsgOK P W a49 sy n vars
  | [], _ => asg_nil hK.h49
  | x :: r, h => asg_cons hC hV hK (h x (by simp)) hn hlen0 (asg_ok hC hV hK hn hlen0 r fun y hy => h y (by simp [hy]))

end TS
end Go.AL
