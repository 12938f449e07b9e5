/- Functions of the program: what they return, and that they do. -/
import Derived.Test.YtiolpppbnbboiaaHandC

set_option linter.unusedVariables false
set_option linter.unusedSimpArgs false
namespace Sp
open Go.AL
def upTo (c : Option Nat) (sy : List Tm) (size : Int) : List (List Tm) := cutN c ((List.range (size + 1).toNat).flatMap fun n => lists c sy n)
/-- The values of a variable, by its name's first byte. -/
def valsP (v : ByteArray) (sy : List Tm) (size : Int) : List (List Tm) :=
  if byteAt v 0 = 101 then upTo none sy size else sy.map (fun t => [t]) ++ if byteAt v 0 = 116 ∧ 0 < size then (upTo none sy (size - 1)).map (fun k => [grp k]) else []
theorem upTo_none (sy : List Tm) (size : Nat) : upTo none sy size = (List.range' 0 (size + 1)).flatMap fun n => lists none sy n := by
  unfold upTo cutN; rw [List.range_eq_range']; rfl
end Sp
namespace Go.AL
open Go.RowKit
set_option linter.unusedVariables false
set_option linter.unusedSectionVars false
set_option linter.unusedSimpArgs false
namespace TV
open TA (Law)
open TG TL

def B75 (a76 : Nat) : AC := (.seq (.reg [⟨(some 10), none, .bin .lss (.t 9) (.t 8)⟩] [])
      (.seq (.cond (.t 10) (.skip)
        (.exit 0))
       (.seq (.block 1 (.seq (.reg [⟨(some 11), none, .mv (.t 9)⟩, ⟨(some 6), none, .mv (.t 11)⟩] [])
          (.seq (.reg [⟨(some 12), none, .ld false 1 (.t 2)⟩, ⟨(some 13), none, .mv (.t 6)⟩, ⟨(some 14), none, .mv (.t 1)⟩, ⟨(some 15), none, .call (.c (.fn (.func a76) [] [])) [(.t 12), (.t 13), (.t 14)]⟩, ⟨(some 16), none, .un .not (.t 15)⟩] [])
           (.cond (.t 16) (.seq (.reg [⟨(some 5), none, .mv (.c (.bool false))⟩] [])
             (.ret))
            (.skip)))))
        (.reg [⟨(some 17), none, .bin .add (.t 9) (.c (.int .i64 1))⟩, ⟨(some 9), none, .mv (.t 17)⟩] []))))
def T75 : AC := (.seq (.reg [⟨(some 5), none, .mv (.c (.bool true))⟩] [])
   (.ret))
def K75 (a76 : Nat) : AC := .seq (.reg [⟨(some 5), none, .mv (.c (.bool false))⟩] [])
 (.seq (.seq (.reg [⟨(some 7), none, .mv (.t 0)⟩, ⟨(some 8), none, .bin .add (.t 7) (.c (.int .i64 1))⟩, ⟨(some 9), none, .mv (.c (.int .i64 0))⟩] [])
   (.block 0 (.loop (B75 a76))))
  T75)
def B77 : AC := (.seq (.reg [⟨(some 18), none, .bin .lss (.t 17) (.t 16)⟩] [])
       (.seq (.cond (.t 18) (.skip)
         (.exit 0))
        (.seq (.block 1 (.seq (.reg [⟨(some 19), none, .ia 3 (.t 15) (.t 17)⟩, ⟨(some 20), none, .ld true 3 (.t 19)⟩, ⟨(some 7), none, .new [(.int .i64 0), (.str ⟨#[]⟩), (.lst 3 [] .clip)]⟩, ⟨none, none, .st 3 (.t 7) (.t 20)⟩] [])
           (.seq (.reg [⟨(some 21), none, .ld false 1 (.t 5)⟩, ⟨(some 22), none, .ld true 3 (.t 7)⟩, ⟨(some 23), none, .bsl 3 1 (.agg [(.int .i64 0), (.str ⟨#[]⟩), (.lst 3 [] .clip)]) [(0, (.t 22))]⟩, ⟨(some 24), none, .call (.t 21) [(.t 23)]⟩, ⟨(some 25), none, .un .not (.t 24)⟩] [])
            (.cond (.t 25) (.ret)
             (.skip)))))
         (.reg [⟨(some 26), none, .bin .add (.t 17) (.c (.int .i64 1))⟩, ⟨(some 17), none, .mv (.t 26)⟩] []))))
def T77 (a78 : Nat) : AC := (.seq (.reg [⟨(some 27), none, .ld false 1 (.t 1)⟩, ⟨(some 28), none, .idx (.t 27) (.c (.int .i64 0))⟩, ⟨(some 29), none, .bin .eql (.t 28) (.c (.int .u8 116))⟩, ⟨(some 30), none, .mv (.t 29)⟩, ⟨(some 31), (some (30, true)), .ld false 1 (.t 3)⟩, ⟨(some 32), (some (30, true)), .bin .gtr (.t 31) (.c (.int .i64 0))⟩, ⟨(some 33), none, .pick (.t 30) (.t 32) (.c (.bool false))⟩] [])
    (.cond (.t 33) (.reg [⟨(some 34), none, .ld false 1 (.t 2)⟩, ⟨(some 35), none, .ld false 1 (.t 3)⟩, ⟨(some 36), none, .bin .sub (.t 35) (.c (.int .i64 1))⟩, ⟨(some 37), none, .mkf (.func a78) [] [(.t 5)]⟩, ⟨(some 38), none, .call (.t 34) [(.t 36), (.t 37)]⟩] [])
     (.skip)))
def K77 (a78 : Nat) : AC := .seq (.reg [⟨(some 5), none, .box (.t 0)⟩] [])
 (.seq (.seq (.reg [⟨(some 8), none, .ld false 1 (.t 1)⟩, ⟨(some 9), none, .idx (.t 8) (.c (.int .i64 0))⟩, ⟨(some 10), none, .bin .eql (.t 9) (.c (.int .u8 101))⟩] [])
   (.cond (.t 10) (.seq (.reg [⟨(some 11), none, .ld false 1 (.t 2)⟩, ⟨(some 12), none, .ld false 1 (.t 3)⟩, ⟨(some 13), none, .ld false 1 (.t 5)⟩, ⟨(some 14), none, .call (.t 11) [(.t 12), (.t 13)]⟩] [])
     (.ret))
    (.skip)))
  (.seq (.seq (.reg [⟨(some 15), none, .ld false 1 (.t 4)⟩, ⟨(some 16), none, .len (.t 15)⟩, ⟨(some 17), none, .mv (.c (.int .i64 0))⟩] [])
    (.block 0 (.loop B77)))
   (T77 a78)))
def K78 : AC := .seq (.reg [⟨(some 3), none, .mv (.c (.bool false))⟩] [])
 (.seq (.reg [⟨(some 4), none, .ld false 1 (.t 1)⟩, ⟨(some 5), none, .mv (.t 0)⟩, ⟨(some 6), none, .build [(.int .i64 0), (.str ⟨#[]⟩), (.lst 3 [] .clip)] [(0, 1, (.c (.int .i64 4))), (2, 1, (.t 5))]⟩, ⟨(some 7), none, .bsl 3 1 (.agg [(.int .i64 0), (.str ⟨#[]⟩), (.lst 3 [] .clip)]) [(0, (.t 6))]⟩, ⟨(some 8), none, .call (.t 4) [(.t 7)]⟩, ⟨(some 3), none, .mv (.t 8)⟩] [])
  (.ret))
def K48 (a75 a77 : Nat) : AC := .seq (.reg [⟨(some 3), none, .box (.t 0)⟩, ⟨(some 4), none, .box (.t 1)⟩, ⟨(some 5), none, .box (.t 2)⟩, ⟨(some 6), none, .mv (.c .nilf)⟩] [])
 (.seq (.reg [⟨(some 8), none, .mkf (.func a75) [] [(.t 4)]⟩, ⟨(some 7), none, .new [.nilf]⟩, ⟨none, none, .st 1 (.t 7) (.t 8)⟩] [])
  (.seq (.reg [⟨(some 9), none, .mkf (.func a77) [] [(.t 3), (.t 7), (.t 5), (.t 4)]⟩, ⟨(some 6), none, .mv (.t 9)⟩] [])
   (.ret)))

structure Codes (P : Program) (a48 a75 a77 a78 a76 : Nat) : Prop where
  h48 : codeOf P a48 = some (10, [.t 6], K48 a75 a77)
  h75 : codeOf P a75 = some (18, [.t 5], K75 a76)
  h77 : codeOf P a77 = some (39, [], K77 a78)
  h78 : codeOf P a78 = some (9, [.t 3], K78)

variable {P : Program} {W : World} {a48 a75 a77 a78 a76 a90 a91 a92 : Nat} {sy : List Tm}
section
variable {ys : List AV} {J : Nat → AH → AH → Prop} {E : AH → AH → Prop} {y : AV}

def EV75 (y : AV) (b4 : Nat) (n i : Int) : Env := [(1, y), (2, .ptr b4 0), (8, .int .i64 n), (9, .int .i64 i)]

theorem loop75 (hC : TL.Codes P a76 a90 a91 a92) (hlen : sy.length < 9223372036854775808) (hL : Law P W ys J E y) (hyn : IsFn y) {b4 kend : Nat} {I : AH} {tok : Tok} (h4 : I b4 = some (.cells [.lst 3 (sy.map encT) tok])) {n : Nat} (hn : n ≤ 1000) :
    ∀ (d i k : Nat) (τ : AH), i + d = n + 1 → HasA ys k (((List.range' i d).flatMap (Sp.lists none sy)).map encL) → k + (((List.range' i d).flatMap (Sp.lists none sy)).map encL).length = kend → J k I τ →
      AW P W none 18 (atEnd [.t 5] (TA.Post J E kend I)) [.c (B75 a76), .lp (B75 a76), .blk 0, .c T75] (EV75 y b4 (n + 1 : Nat) i) τ [] := by
  intro d
  induction d with
  | zero =>
    intro i k τ hi hh hk hJ
    refine AW.seq (AW.reg ?_)
    simp only [wpOps, wpA, ev, EV75, Env.get, Env.set, Env.put, binA, reduceIte, Nat.reduceEqDiff]
    refine ⟨trivial, ?_⟩
    refine AW.seq ?_
    refine AW.cond (b := false) (by simp [ev, Env.get, Env.drop]; omega) ?_
    refine AW.exit (K' := [.c T75]) rfl ?_
    refine AW.seq (AW.reg ?_)
    simp only [wpOps, wpA, ev, Env.set, TG.drop_nil]
    refine ret_post (v := .bool true) (Env.get_put_same _ _ _) ?_
    have hke : k = kend := by simpa using hk
    subst hke
    exact ⟨hL.le _ _ _ hJ, .inl ⟨rfl, hJ⟩⟩
  | succ d ihd =>
    intro i k τ hi hh hk hJ
    have hIτ := hL.le _ _ _ hJ
    refine AW.seq (AW.reg ?_)
    simp only [wpOps, wpA, ev, EV75, Env.get, Env.set, Env.put, binA, reduceIte, Nat.reduceEqDiff]
    refine ⟨trivial, ?_⟩
    refine AW.seq ?_
    refine AW.cond (b := true) (by simp [ev, Env.get, Env.drop]; omega) ?_
    refine AW.skip (AW.seq (AW.block (AW.seq (AW.reg ?_))))
    simp only [TG.drop_nil]
    rw [wpOps]; simp only [wpA, ev, Env.get, Env.set, Env.put, reduceIte, Nat.reduceEqDiff, reduceCtorEq]
    rw [wpOps]; simp only [wpA, ev, Env.get, Env.set, Env.put, reduceIte, Nat.reduceEqDiff, reduceCtorEq]
    rw [wpOps]
    refine AW.seq (AW.reg ?_)
    rw [wpOps]; simp only [wpA, ev, Env.get, Env.set, Env.put, reduceIte, Nat.reduceEqDiff, reduceCtorEq, hIτ _ _ h4]
    refine ⟨by simp, ?_⟩
    simp only [List.getD_cons_zero]
    rw [wpOps]; simp only [wpA, ev, Env.get, Env.set, Env.put, reduceIte, Nat.reduceEqDiff, reduceCtorEq]
    rw [wpOps]; simp only [wpA, ev, Env.get, Env.set, Env.put, reduceIte, Nat.reduceEqDiff, reduceCtorEq]
    rw [wpOps]; simp only [wpA, ev, Env.get, Env.set, Env.put, reduceIte, Nat.reduceEqDiff, reduceCtorEq, List.map]
    rw [List.range'_succ, List.flatMap_cons, List.map_append] at hh hk
    obtain ⟨hh1, hh2⟩ := hh.app
    refine wpA_mono_call (show ACallV P W (AV.fn (Fn.func a76) [] []) [.lst 3 (sy.map encT) tok, .int .i64 i, y] τ _ from
      lists_ok hC hlen i (by omega) _ _ _ _ hL hyn k I τ tok hh1 hJ) fun v τ2 hv => ?_
    obtain ⟨hv1, hv2⟩ := hv
    rcases hv2 with ⟨rfl, hJ3⟩ | ⟨rfl, hE3⟩
    · rw [wpOps]; simp only [wpA, unA, ev, Env.get, Env.set, Env.put, reduceIte, Nat.reduceEqDiff, reduceCtorEq, List.map, Bool.not_true]
      rw [wpOps]
      refine AW.cond (b := false) (by simp [ev, Env.get, Env.drop]) ?_
      refine AW.skip (AW.blk (AW.reg ?_))
      simp only [TG.drop_nil]
      rw [wpOps]; simp only [wpA, ev, Env.get, Env.set, Env.put, reduceIte, Nat.reduceEqDiff, reduceCtorEq, List.map, binA]
      refine ⟨trivial, ?_⟩
      rw [wpOps]; simp only [wpA, ev, Env.get, Env.set, Env.put, reduceIte, Nat.reduceEqDiff, reduceCtorEq, List.map]
      rw [wpOps]
      refine AW.lp (AW.forget (env' := EV75 y b4 (n + 1 : Nat) ((i + 1 : Nat) : Int)) (fun u => ?_) (ihd (i + 1) _ τ2 (by omega) hh2 ?_ hJ3))
      · have ew : IntKind.i64.wrap ((i : Int) + 1) = ((i + 1 : Nat) : Int) := by rw [inR_wrap (inR64 (by omega))]; omega
        simp only [TG.drop_nil, EV75, Env.get, ew]
        by_cases h1 : 1 = u
        · subst h1; simp
        by_cases h2 : 2 = u
        · subst h2; simp
        by_cases h8 : 8 = u
        · subst h8; simp
        by_cases h9 : 9 = u
        · subst h9; simp
        simp [h1, h2, h8, h9]
      · rw [List.length_append] at hk
        show k + (Ls sy i).length + _ = kend
        unfold Ls; omega
    · rw [wpOps]; simp only [wpA, unA, ev, Env.get, Env.set, Env.put, reduceIte, Nat.reduceEqDiff, reduceCtorEq, List.map, Bool.not_false]
      rw [wpOps]
      exact retF (by simp [Env.get, Env.drop]) hv1 hE3 hL (AH.le_refl _)

theorem c75 (hC : TL.Codes P a76 a90 a91 a92) (hc : codeOf P a75 = some (18, [.t 5], K75 a76)) (hlen : sy.length < 9223372036854775808) (hL : Law P W ys J E y) (hyn : IsFn y) {b4 k : Nat} {I τ : AH} {tok : Tok} (h4 : I b4 = some (.cells [.lst 3 (sy.map encT) tok])) {n : Nat} (hn : n ≤ 1000)
    (hh : HasA ys k ((Sp.upTo none sy n).map encL)) (hJ : J k I τ) : ACall P W a75 [.int .i64 n, y, .ptr b4 0] τ (TA.Post J E (k + (Sp.upTo none sy n).length) I) := by
  obtain ⟨fn, c, e1, e2, e3, e4, e5, e6⟩ := codeOf_spec hc
  refine acall_of e1 e2 e3 e4 e5 (by rw [e6]; simp) ?_
  rw [e6]
  refine AW.seq (AW.reg ?_)
  simp only [wpOps, wpA, ev, argEnv, Env.get, Env.set, Env.put, reduceIte, Nat.reduceEqDiff, Nat.reduceAdd, reduceCtorEq, Nat.zero_add, TG.drop_nil]
  refine AW.seq (AW.seq (AW.reg ?_))
  rw [wpOps]; simp only [wpA, ev, Env.get, Env.set, Env.put, reduceIte, Nat.reduceEqDiff, reduceCtorEq]
  rw [wpOps]; simp only [wpA, binA, ev, Env.get, Env.set, Env.put, reduceIte, Nat.reduceEqDiff, reduceCtorEq]
  refine ⟨trivial, ?_⟩
  have ew : IntKind.i64.wrap ((n : Int) + 1) = ((n + 1 : Nat) : Int) := by rw [inR_wrap (inR64 (by omega))]; omega
  rw [ew]
  rw [wpOps]; simp only [wpA, ev, Env.get, Env.set, Env.put, reduceIte, Nat.reduceEqDiff, reduceCtorEq]
  rw [wpOps, TG.drop_nil]
  rw [Sp.upTo_none] at hh ⊢
  refine AW.block (AW.loop (AW.forget (env' := EV75 y b4 (n + 1 : Nat) ((0 : Nat) : Int)) (fun u => ?_) (loop75 hC hlen hL hyn h4 hn (n + 1) 0 k τ (by omega) hh (by rw [List.length_map]) hJ)))
  simp only [EV75, Env.get]
  by_cases h1 : 1 = u
  · subst h1; simp
  by_cases h2 : 2 = u
  · subst h2; simp
  by_cases h8 : 8 = u
  · subst h8; simp
  by_cases h9 : 9 = u
  · subst h9; simp
  simp [h1, h2, h8, h9]

theorem bsl1 (t : Tm) : putElems 3 (List.replicate 1 (AV.agg [AV.int IntKind.i64 0, AV.str ⟨#[]⟩, AV.lst 3 [] Tok.clip]).bare) [(0, encT t)] = some [encT t] := by
  rw [encT_eq]; simp [putElems, encN0, AV.cells, AV.ok, AV.one, AV.bare, AV.bare1]

theorem c78 (hc : codeOf P a78 = some (9, [.t 3], K78)) (hL : Law P W ys J E y) {b5 k : Nat} {I τ : AH} {kids : List Tm} (h5 : I b5 = some (.cells [y])) (hy : ys[k]? = some (encL [Sp.grp kids])) (hJ : J k I τ) :
    ACall P W a78 [encL kids, .ptr b5 0] τ (TA.Post J E (k + 1) I) := by
  obtain ⟨fn, c, e1, e2, e3, e4, e5, e6⟩ := codeOf_spec hc
  refine acall_of e1 e2 e3 e4 e5 (by rw [e6]; simp) ?_
  rw [e6]
  have hIτ := hL.le _ _ _ hJ
  refine AW.seq (AW.reg ?_)
  simp only [wpOps, wpA, ev, argEnv, Env.get, Env.set, Env.put, reduceIte, Nat.reduceEqDiff, Nat.reduceAdd, reduceCtorEq, Nat.zero_add, TG.drop_nil]
  refine AW.seq (AW.reg ?_)
  rw [wpOps]; simp only [wpA, ev, Env.get, Env.set, Env.put, reduceIte, Nat.reduceEqDiff, reduceCtorEq, hIτ _ _ h5]
  refine ⟨by simp, ?_⟩
  simp only [List.getD_cons_zero]
  rw [wpOps]; simp only [wpA, ev, Env.get, Env.set, Env.put, reduceIte, Nat.reduceEqDiff, reduceCtorEq]
  rw [wpOps]; simp only [wpA, ev, Env.get, Env.set, Env.put, reduceIte, Nat.reduceEqDiff, reduceCtorEq, List.map]
  have hput : putParts [.int .i64 0, .str ⟨#[]⟩, .lst 3 [] .clip] [(0, 1, .int .i64 4), (2, 1, encL kids)] = some (encN0 (Sp.grp kids)) := by
    simp [putParts, AV.cells, AV.ok, AV.one, encL, setAt, encN0, Sp.grp, Tm.kind, Tm.text, Tm.kids]
  rw [hput]
  refine ⟨by simp [AV.one], ?_⟩
  rw [← encT_eq]
  rw [wpOps]; simp only [wpA, ev, Env.get, Env.set, Env.put, reduceIte, Nat.reduceEqDiff, reduceCtorEq, List.map, bsl1]
  refine ⟨by simp [AV.cells], by simp [AV.cells, AV.ok, AV.one], ?_⟩
  rw [wpOps]; simp only [wpA, ev, Env.get, Env.set, Env.put, reduceIte, Nat.reduceEqDiff, reduceCtorEq, List.map]
  refine wpA_mono_call (ACallV.bareArg (x := .lst 3 [encT (Sp.grp kids)] .clip) (hL.step k (encL [Sp.grp kids]) I τ hy hJ)) fun v τ2 hv => ?_
  rw [wpOps]; simp only [wpA, ev, Env.get, Env.set, Env.put, reduceIte, Nat.reduceEqDiff, reduceCtorEq]
  rw [wpOps, TG.drop_nil]
  exact ret_post rfl hv

def EVs (bv bu bs by_ : Nat) : Env := [(1, .ptr bv 0), (2, .ptr bu 0), (3, .ptr bs 0), (5, .ptr by_ 0)]
def EVt (bv bu bs by_ : Nat) (L : AV) (n i : Int) : Env := [(1, .ptr bv 0), (2, .ptr bu 0), (3, .ptr bs 0), (5, .ptr by_ 0), (15, L), (16, .int .i64 n), (17, .int .i64 i)]
def Done (J : Nat → AH → AH → Prop) (E : AH → AH → Prop) (k : Nat) (I : AH) : AV → AH → Prop := fun _ τ => J k I τ ∨ E I τ

theorem fin_done {kk n : Nat} {I : AH} {env : Env} {τ : AH} (h : J kk I τ ∨ E I τ) : AW P W none n (atEnd [] (Done J E kk I)) [] env τ [] := by
  refine AW.fin ?_
  simp only [atEnd, resW, AH.delAll]
  exact ⟨List.nodup_nil, fun b hb => (by cases hb), h⟩
theorem ret_done {kk n : Nat} {I : AH} {env : Env} {τ : AH} {K : List AItem} (h : J kk I τ ∨ E I τ) : AW P W none n (atEnd [] (Done J E kk I)) (.c .ret :: K) env τ [] := by
  refine AW.ret ?_
  simp only [atEnd, resW, AH.delAll]
  exact ⟨List.nodup_nil, fun b hb => (by cases hb), h⟩
theorem post_done (hL : Law P W ys J E y) {k : Nat} {I I0 : AH} {v : AV} {τ : AH} (h : TA.Post J E k I v τ) (h0 : I0.le I) : J k I0 τ ∨ E I0 τ := by
  rcases h.2 with ⟨_, h⟩ | ⟨_, h⟩
  · exact .inl (hL.shr _ _ _ _ h h0)
  · exact .inr (hL.shrE _ _ _ h h0)

theorem loop77 (hL : Law P W ys J E y) {bv bu bs by_ kend kmid : Nat} {I I0 : AH} {tok : Tok} (h5 : I by_ = some (.cells [y])) (hlen : sy.length < 9223372036854775808) (h0 : I0.le I)
    (hnext : ∀ τ, J kmid I τ → AW P W none 39 (atEnd [] (Done J E kend I0)) [.c (T77 a78)] (EVs bv bu bs by_) τ []) : ∀ (r : List Tm) (i k : Nat) (τ : AH), sy = sy.take i ++ r → i ≤ sy.length →
      HasA ys k (r.map fun t => encL [t]) → k + r.length = kmid → J k I τ →
      AW P W none 39 (atEnd [] (Done J E kend I0)) [.c B77, .lp B77, .blk 0, .c (T77 a78)] (EVt bv bu bs by_ (.lst 3 (sy.map encT) tok) sy.length i) τ [] := by
  intro r
  induction r with
  | nil =>
    intro i k τ hr hi hh hk hJ
    have hil : sy.length = i := by have := congrArg List.length hr; simp at this; omega
    refine AW.seq (AW.reg ?_)
    simp only [wpOps, wpA, ev, EVt, Env.get, Env.set, Env.put, binA, reduceIte, Nat.reduceEqDiff]
    refine ⟨trivial, ?_⟩
    refine AW.seq ?_
    refine AW.cond (b := false) (by simp [ev, Env.get, Env.drop]; omega) ?_
    refine AW.exit (K' := [.c (T77 a78)]) rfl ?_
    have hke : k = kmid := by simpa using hk
    subst hke
    refine AW.forget (env' := EVs bv bu bs by_) (fun u => ?_) (hnext τ hJ)
    simp only [TG.drop_nil, EVs, Env.get]
    by_cases h1 : 1 = u
    · subst h1; simp
    by_cases h2 : 2 = u
    · subst h2; simp
    by_cases h3 : 3 = u
    · subst h3; simp
    by_cases h5 : 5 = u
    · subst h5; simp
    simp [h1, h2, h3, h5]
  | cons t r ihr =>
    intro i k τ hr hi hh hk hJ
    have hil : i < sy.length := by have := congrArg List.length hr; simp at this; omega
    have hget : (sy.map encT).getD i .any = encT t := by
      rw [List.getD_eq_getElem?_getD, List.getElem?_map, hr, List.getElem?_append_right (by simp; omega)]
      simp [Nat.min_eq_left (Nat.le_of_lt hil)]
    refine AW.seq (AW.reg ?_)
    simp only [wpOps, wpA, ev, EVt, Env.get, Env.set, Env.put, binA, reduceIte, Nat.reduceEqDiff]
    refine ⟨trivial, ?_⟩
    refine AW.seq ?_
    refine AW.cond (b := true) (by simp [ev, Env.get, Env.drop]; omega) ?_
    refine AW.skip (AW.seq (AW.block (AW.seq (AW.reg ?_))))
    simp only [TG.drop_nil]
    rw [wpOps]; simp only [wpA, ev, Env.get, Env.set, Env.put, reduceIte, Nat.reduceEqDiff, reduceCtorEq, hget, Int.toNat_natCast]
    refine ⟨trivial, by omega, by simp [hil], ?_⟩
    rw [encT_eq]
    rw [wpOps]; simp only [wpA, ev, Env.get, Env.set, Env.put, reduceIte, Nat.reduceEqDiff, reduceCtorEq]
    refine ⟨by simp [AV.cells, encN0], ?_⟩
    rw [wpOps]; simp only [wpA, ev, Env.get, Env.set, Env.put, reduceIte, Nat.reduceEqDiff, reduceCtorEq]
    intro b9 hb9
    rw [wpOps]; simp only [wpA, ev, Env.get, Env.set, Env.put, reduceIte, Nat.reduceEqDiff, reduceCtorEq, AH.put_same, AH.put_put, AV.cells, encN0, List.take, setAt, List.drop, List.length_cons, List.length_nil]
    refine ⟨trivial, rfl, by decide, ?_⟩
    simp only [List.set_cons_zero, List.set_cons_succ, Nat.zero_add]
    have hcl : [AV.int IntKind.i64 t.kind, AV.str t.text, AV.lst 3 (List.map encT t.kids) Tok.none] = encN0 t := rfl
    rw [hcl]
    have hτ1 : τ.le (τ.put b9 (.cells (encN0 t))) := AH.le_put _ hb9
    have hb9' : (τ.put b9 (.cells (encN0 t))) b9 = some (.cells (encN0 t)) := AH.put_same _ _ _
    generalize τ.put b9 (.cells (encN0 t)) = τ1 at hτ1 hb9' ⊢
    have hJ1 := more hL hJ hτ1
    have hIτ := hL.le _ _ _ hJ1
    have hx : AV.agg (List.take 3 (List.drop 0 (encN0 t))) = encT t := by rw [encT_eq]; rfl
    refine AW.seq (AW.reg ?_)
    rw [wpOps]; simp only [wpA, ev, Env.get, Env.set, Env.put, reduceIte, Nat.reduceEqDiff, reduceCtorEq, hIτ _ _ h5]
    refine ⟨by simp, ?_⟩
    simp only [List.getD_cons_zero]
    rw [wpOps]; simp only [wpA, ev, Env.get, Env.set, Env.put, reduceIte, Nat.reduceEqDiff, reduceCtorEq, hb9', hx]
    refine ⟨by simp [encN0], by simp [encN0, AV.one], ?_⟩
    rw [wpOps]; simp only [wpA, ev, Env.get, Env.set, Env.put, reduceIte, Nat.reduceEqDiff, reduceCtorEq, List.map, bsl1]
    refine ⟨by simp [AV.cells], by simp [AV.cells, AV.ok, AV.one], ?_⟩
    rw [List.map_cons] at hh
    obtain ⟨hh1, hh2⟩ := hh.cons
    rw [wpOps]; simp only [wpA, ev, Env.get, Env.set, Env.put, reduceIte, Nat.reduceEqDiff, reduceCtorEq, List.map]
    refine wpA_mono_call (ACallV.bareArg (x := .lst 3 [encT t] .clip) (hL.step k (encL [t]) I τ1 hh1 hJ1)) fun v τ2 hv => ?_
    obtain ⟨hv1, hv2⟩ := hv
    rcases hv2 with ⟨rfl, hJ3⟩ | ⟨rfl, hE3⟩
    · rw [wpOps]; simp only [wpA, unA, ev, Env.get, Env.set, Env.put, reduceIte, Nat.reduceEqDiff, reduceCtorEq, List.map, Bool.not_true]
      rw [wpOps]
      refine AW.cond (b := false) (by simp [ev, Env.get, Env.drop]) ?_
      refine AW.skip (AW.blk (AW.reg ?_))
      simp only [TG.drop_nil]
      rw [wpOps]; simp only [wpA, ev, Env.get, Env.set, Env.put, reduceIte, Nat.reduceEqDiff, reduceCtorEq, List.map, binA]
      refine ⟨trivial, ?_⟩
      rw [wpOps]; simp only [wpA, ev, Env.get, Env.set, Env.put, reduceIte, Nat.reduceEqDiff, reduceCtorEq, List.map]
      rw [wpOps]
      refine AW.lp (AW.forget (env' := EVt bv bu bs by_ (.lst 3 (sy.map encT) tok) sy.length ((i + 1 : Nat) : Int)) (fun u => ?_) (ihr (i + 1) (k + 1) τ2 ?_ hil hh2 (by simp at hk; omega) hJ3))
      · have ew : IntKind.i64.wrap ((i : Int) + 1) = ((i + 1 : Nat) : Int) := by rw [inR_wrap (inR64 (by omega))]; omega
        simp only [TG.drop_nil, EVt, Env.get, ew]
        by_cases h1 : 1 = u
        · subst h1; simp
        by_cases h2 : 2 = u
        · subst h2; simp
        by_cases h3 : 3 = u
        · subst h3; simp
        by_cases h5 : 5 = u
        · subst h5; simp
        by_cases h8 : 15 = u
        · subst h8; simp
        by_cases h9 : 16 = u
        · subst h9; simp
        by_cases h10 : 17 = u
        · subst h10; simp
        simp [h1, h2, h3, h5, h8, h9, h10]
      · have e3 : List.take (i + 1) sy = List.take i sy ++ [t] := by
          rw [List.take_add_one]; congr 1
          rw [hr, List.getElem?_append_right (by simp; omega)]
          simp [Nat.min_eq_left (Nat.le_of_lt hil)]
        rw [e3]; simpa using hr
    · rw [wpOps]; simp only [wpA, unA, ev, Env.get, Env.set, Env.put, reduceIte, Nat.reduceEqDiff, reduceCtorEq, List.map, Bool.not_false]
      rw [wpOps]
      refine AW.cond (b := true) (by simp [ev, Env.get, Env.drop]) ?_
      exact ret_done (.inr (hL.shrE _ _ _ hE3 h0))

theorem c77 (hC : TL.Codes P a76 a90 a91 a92) (hc : codeOf P a77 = some (39, [], K77 a78)) (h75 : codeOf P a75 = some (18, [.t 5], K75 a76)) (h78 : codeOf P a78 = some (9, [.t 3], K78)) (hlen : sy.length < 9223372036854775808) (hL : Law P W ys J E y) (hyn : IsFn y)
    {bv bu bs b4 : Nat} {I0 τ : AH} {tok : Tok} {v : ByteArray} {n : Nat} (hv : 0 < v.size) (hn : n ≤ 1000) (hbv : I0 bv = some (.cells [.str v])) (hbu : I0 bu = some (.cells [.fn (.func a75) [] [.ptr b4 0]])) (hbs : I0 bs = some (.cells [.int .i64 n])) (h4 : I0 b4 = some (.cells [.lst 3 (sy.map encT) tok]))
    (hh : HasA ys 0 ((Sp.valsP v sy n).map encL)) (hJ : J 0 I0 τ) : ACall P W a77 [y, .ptr bv 0, .ptr bu 0, .ptr bs 0, .ptr b4 0] τ (Done J E (Sp.valsP v sy n).length I0) := by
  obtain ⟨fn, c, e1, e2, e3, e4, e5, e6⟩ := codeOf_spec hc
  refine acall_of e1 e2 e3 e4 e5 (by rw [e6]; simp) ?_
  rw [e6]
  refine AW.seq (AW.reg ?_)
  rw [wpOps]; simp only [wpA, ev, argEnv, Env.get, Env.set, Env.put, reduceIte, Nat.reduceEqDiff, Nat.reduceAdd, reduceCtorEq, Nat.zero_add]
  refine ⟨hyn.ok.1, fun b5 hb5 => ?_⟩
  rw [hyn.ok.2]
  obtain ⟨hJ5, hI5, hc5, hn5⟩ := claim hL (o := .cells [y]) hJ hb5
  generalize τ.put b5 _ = τ5 at hJ5 ⊢
  generalize hI5' : I0.put b5 _ = I at hJ5 hI5 hc5
  have hIτ := hL.le _ _ _ hJ5
  have gbv := hI5 _ _ hbv; have gbu := hI5 _ _ hbu; have gbs := hI5 _ _ hbs; have g4 := hI5 _ _ h4
  rw [wpOps, TG.drop_nil]
  refine AW.seq (AW.seq (AW.reg ?_))
  rw [wpOps]; simp only [wpA, ev, Env.get, Env.set, Env.put, reduceIte, Nat.reduceEqDiff, reduceCtorEq, hIτ _ _ gbv]
  refine ⟨by simp, ?_⟩
  simp only [List.getD_cons_zero]
  rw [wpOps]; simp only [wpA, ev, Env.get, Env.set, Env.put, reduceIte, Nat.reduceEqDiff, reduceCtorEq]
  refine ⟨by omega, by omega, ?_⟩
  rw [wpOps]; simp only [wpA, binA, ev, Env.get, Env.set, Env.put, reduceIte, Nat.reduceEqDiff, reduceCtorEq]
  refine ⟨trivial, ?_⟩
  rw [wpOps, TG.drop_nil]
  have et : Int.toNat 0 = 0 := rfl
  rw [et]
  by_cases hb0 : byteAt v 0 = 101
  · refine AW.cond (b := true) (by simp [ev, Env.get, hb0]) ?_
    have hvp : Sp.valsP v sy n = Sp.upTo none sy n := by unfold Sp.valsP; rw [if_pos hb0]
    rw [hvp] at hh ⊢
    refine AW.seq (AW.reg ?_)
    rw [wpOps]; simp only [wpA, ev, Env.get, Env.set, Env.put, reduceIte, Nat.reduceEqDiff, reduceCtorEq, hIτ _ _ gbu]
    refine ⟨by simp, ?_⟩
    simp only [List.getD_cons_zero]
    rw [wpOps]; simp only [wpA, ev, Env.get, Env.set, Env.put, reduceIte, Nat.reduceEqDiff, reduceCtorEq, hIτ _ _ gbs]
    refine ⟨by simp, ?_⟩
    simp only [List.getD_cons_zero]
    rw [wpOps]; simp only [wpA, ev, Env.get, Env.set, Env.put, reduceIte, Nat.reduceEqDiff, reduceCtorEq, hIτ _ _ hc5]
    refine ⟨by simp, ?_⟩
    simp only [List.getD_cons_zero]
    rw [wpOps]; simp only [wpA, ev, Env.get, Env.set, Env.put, reduceIte, Nat.reduceEqDiff, reduceCtorEq, List.map]
    refine wpA_mono_call (show ACallV P W (AV.fn (Fn.func a75) [] [.ptr b4 0]) [.int .i64 n, y] τ5 _ from
      c75 hC h75 hlen hL hyn g4 hn hh hJ5) fun v τ6 hv => ?_
    rw [wpOps, TG.drop_nil]
    have := post_done hL hv hI5
    rw [Nat.zero_add] at this
    exact ret_done this
  · refine AW.cond (b := false) (by simp [ev, Env.get, hb0]) (AW.skip ?_)
    have hvp : Sp.valsP v sy n = sy.map (fun t => [t]) ++ if byteAt v 0 = 116 ∧ 0 < (n : Int) then (Sp.upTo none sy ((n : Int) - 1)).map (fun k => [Sp.grp k]) else [] := by unfold Sp.valsP; rw [if_neg hb0]
    rw [hvp] at hh ⊢
    rw [List.map_append, List.map_map] at hh
    obtain ⟨hh1, hh2⟩ := hh.app
    rw [List.length_map, Nat.zero_add] at hh2
    refine AW.seq (AW.seq (AW.reg ?_))
    rw [wpOps]; simp only [wpA, ev, Env.get, Env.set, Env.put, reduceIte, Nat.reduceEqDiff, reduceCtorEq, hIτ _ _ g4]
    refine ⟨by simp, ?_⟩
    simp only [List.getD_cons_zero]
    rw [wpOps]; simp only [wpA, ev, Env.get, Env.set, Env.put, reduceIte, Nat.reduceEqDiff, reduceCtorEq]
    intro hlen'
    rw [wpOps]; simp only [wpA, ev, Env.get, Env.set, Env.put, reduceIte, Nat.reduceEqDiff, reduceCtorEq]
    rw [wpOps, TG.drop_nil]
    rw [List.length_map]
    refine AW.block (AW.loop (AW.forget (env' := EVt bv bu bs b5 (.lst 3 (sy.map encT) tok) sy.length ((0 : Nat) : Int)) (fun u => ?_)
      (loop77 (kmid := sy.length) hL hc5 hlen hI5 (fun τ' hJ' => ?_) sy 0 0 τ5 rfl (Nat.zero_le _) hh1 (by omega) hJ5)))
    · simp only [EVt, Env.get]
      by_cases h1 : 1 = u
      · subst h1; simp
      by_cases h2 : 2 = u
      · subst h2; simp
      by_cases h3 : 3 = u
      · subst h3; simp
      by_cases h5 : 5 = u
      · subst h5; simp
      by_cases h8 : 15 = u
      · subst h8; simp
      by_cases h9 : 16 = u
      · subst h9; simp
      by_cases h10 : 17 = u
      · subst h10; simp
      simp [h1, h2, h3, h5, h8, h9, h10]
    · have hIτ' := hL.le _ _ _ hJ'
      refine AW.seq (AW.reg ?_)
      simp only [EVs]
      rw [wpOps]; simp only [wpA, ev, Env.get, Env.set, Env.put, reduceIte, Nat.reduceEqDiff, reduceCtorEq, hIτ' _ _ gbv]
      refine ⟨by simp, ?_⟩
      simp only [List.getD_cons_zero]
      rw [wpOps]; simp only [wpA, ev, Env.get, Env.set, Env.put, reduceIte, Nat.reduceEqDiff, reduceCtorEq]
      refine ⟨by omega, by omega, ?_⟩
      rw [et]
      rw [wpOps]; simp only [wpA, binA, ev, Env.get, Env.set, Env.put, reduceIte, Nat.reduceEqDiff, reduceCtorEq]
      refine ⟨trivial, ?_⟩
      rw [wpOps]; simp only [wpA, ev, Env.get, Env.set, Env.put, reduceIte, Nat.reduceEqDiff, reduceCtorEq]
      by_cases hb1 : byteAt v 0 = 116
      · rw [decide_eq_true hb1]
        rw [wpOps]; simp only [wpA, ev, Env.get, Env.set, Env.put, reduceIte, Nat.reduceEqDiff, reduceCtorEq, hIτ' _ _ gbs]
        refine ⟨by simp, ?_⟩
        simp only [List.getD_cons_zero]
        rw [wpOps]; simp only [wpA, binA, ev, Env.get, Env.set, Env.put, reduceIte, Nat.reduceEqDiff, reduceCtorEq]
        refine ⟨trivial, ?_⟩
        rw [wpOps]; simp only [wpA, ev, Env.get, Env.set, Env.put, reduceIte, Nat.reduceEqDiff, reduceCtorEq]
        rw [wpOps, TG.drop_nil]
        by_cases hn0 : 0 < (n : Int)
        · refine AW.cond (b := true) (by simp [ev, Env.get]; omega) ?_
          rw [if_pos ⟨hb1, hn0⟩, List.map_map] at hh2
          rw [if_pos ⟨hb1, hn0⟩]
          refine AW.reg ?_
          rw [wpOps]; simp only [wpA, ev, Env.get, Env.set, Env.put, reduceIte, Nat.reduceEqDiff, reduceCtorEq, hIτ' _ _ gbu]
          refine ⟨by simp, ?_⟩
          simp only [List.getD_cons_zero]
          rw [wpOps]; simp only [wpA, ev, Env.get, Env.set, Env.put, reduceIte, Nat.reduceEqDiff, reduceCtorEq, hIτ' _ _ gbs]
          refine ⟨by simp, ?_⟩
          simp only [List.getD_cons_zero]
          rw [wpOps]; simp only [wpA, binA, ev, Env.get, Env.set, Env.put, reduceIte, Nat.reduceEqDiff, reduceCtorEq]
          refine ⟨trivial, ?_⟩
          have ew : IntKind.i64.wrap ((n : Int) - 1) = ((n - 1 : Nat) : Int) := by rw [inR_wrap (inR64 (by omega))]; omega
          have ew2 : ((n : Int) - 1) = ((n - 1 : Nat) : Int) := by omega
          rw [ew]
          rw [ew2] at hh2 ⊢
          rw [wpOps]; simp only [wpA, ev, Env.get, Env.set, Env.put, reduceIte, Nat.reduceEqDiff, reduceCtorEq, List.map]
          rw [wpOps]; simp only [wpA, ev, Env.get, Env.set, Env.put, reduceIte, Nat.reduceEqDiff, reduceCtorEq, List.map]
          have hsub : Law P W ((Sp.upTo none sy ((n - 1 : Nat) : Int)).map encL) (JU J I fun q => sy.length + q) (EU E) (.fn (.func a78) [] [.ptr b5 0]) := by
            refine sub hL I (fun q => sy.length + q) fun q x I2 τ2 hx hK hJ2 => ?_
            rw [List.getElem?_map] at hx
            cases hr : (Sp.upTo none sy ((n - 1 : Nat) : Int))[q]? with
            | none => rw [hr] at hx; cases hx
            | some r =>
              rw [hr] at hx; cases hx
              exact c78 h78 hL (hK _ _ hc5) (hh2 q _ (by rw [List.getElem?_map, hr]; rfl)) hJ2
          refine wpA_mono_call (show ACallV P W (AV.fn (Fn.func a75) [] [.ptr b4 0]) [.int .i64 ((n - 1 : Nat) : Int), .fn (.func a78) [] [.ptr b5 0]] τ' _ from
            c75 hC h75 hlen hsub ⟨_, _, _, rfl⟩ (k := 0) g4 (n := n - 1) (by omega) (HasA.self _) ⟨I, AH.le_refl _, AH.le_refl _, hJ'⟩) fun v τ6 hv => ?_
          rw [wpOps, TG.drop_nil]
          have := post_done hL (post_sub hL hv) hI5
          rw [Nat.zero_add] at this
          rw [List.length_append, List.length_map, List.length_map]
          exact fin_done this
        · refine AW.cond (b := false) (by simp [ev, Env.get]; omega) (AW.skip ?_)
          rw [if_neg (fun h => hn0 h.2), List.append_nil, List.length_map]
          exact fin_done (.inl (hL.shr _ _ _ _ hJ' hI5))
      · rw [decide_eq_false hb1]
        rw [wpOps]; simp only [wpA, ev, Env.get, Env.set, Env.put, reduceIte, Nat.reduceEqDiff, reduceCtorEq]
        rw [wpOps]; simp only [wpA, ev, Env.get, Env.set, Env.put, reduceIte, Nat.reduceEqDiff, reduceCtorEq]
        rw [wpOps]; simp only [wpA, ev, Env.get, Env.set, Env.put, reduceIte, Nat.reduceEqDiff, reduceCtorEq, Bool.false_eq_true]
        rw [wpOps, TG.drop_nil]
        refine AW.cond (b := false) (by simp [ev, Env.get]) (AW.skip ?_)
        rw [if_neg (fun h => hb1 h.1), List.append_nil, List.length_map]
        exact fin_done (.inl (hL.shr _ _ _ _ hJ' hI5))
end

/-- The contract of equal.values. -/
def C : Ctr where
  pv _ := none
  run vs st K := match asTs [.str, .lst (.nm 0), .int .i64] vs with
    | some a => addC (some (0 < a.1.size ∧ 0 ≤ a.2.2 ∧ a.2.2 ≤ 1000 ∧ a.2.1.length ≤ 1000)) (K (.iter (.lst (.nm 0)) (Sp.valsP a.1 a.2.1 a.2.2)) st)
    | none => False

theorem encEL : (encE (.lst (.nm 0)) : List Tm → AV) = encL := funext fun l => congrArg (fun x => AV.lst 3 x Tok.none) (TA.encM l)

theorem iter_ok (hC : TL.Codes P a76 a90 a91 a92) (hV : Codes P a48 a75 a77 a78 a76) {bv bu bs b4 : Nat} {fz : AH} {tok : Tok} {v : ByteArray} {n : Nat} (hv : 0 < v.size) (hn : n ≤ 1000) (hlen : sy.length ≤ 1000) (hbv : fz bv = some (.cells [.str v])) (hbu : fz bu = some (.cells [.fn (.func a75) [] [.ptr b4 0]]))
    (hbs : fz bs = some (.cells [.int .i64 n])) (h4 : fz b4 = some (.cells [.lst 3 (sy.map encT) tok])) :
    IterOK P W fz (.fn (.func a77) [] [.ptr bv 0, .ptr bu 0, .ptr bs 0, .ptr b4 0]) ((Sp.valsP v sy n).map encL) := by
  refine ⟨a77, [], _, rfl, ?_⟩
  intro J E y σ hy h1 h2 h3 h4' h5 h6 h7
  have hL : Law P W ((Sp.valsP v sy n).map encL) J E y := ⟨h1, h2, h3, h4', h5, h7⟩
  refine (c77 hC hV.h77 hV.h75 hV.h78 (by omega) hL hy hv hn hbv hbu hbs h4 (HasA.self _) h6).mono fun x τ h => ?_
  rw [List.length_map]; exact h

theorem ok (hC : TL.Codes P a76 a90 a91 a92) (hV : Codes P a48 a75 a77 a78 a76) : CtrOK P W a48 C := by
  constructor
  · intro vs pv hpv; cases hpv
  · intro vs st K hrun fr0 w σ ds qs hH hr
    simp only [C] at hrun
    split at hrun
    case h_2 => exact hrun.elim
    rename_i a ha
    rw [addC_iff] at hrun
    obtain ⟨hp, hrun⟩ := hrun
    have has := asTs_rel _ _ _ _ ha hr
    obtain ⟨v, sy, n, rfl⟩ : ∃ (v : ByteArray) (sy : List Tm) (n : Int), a = (v, sy, n) := ⟨a.1, a.2.1, a.2.2, rfl⟩
    obtain ⟨hv, hn0, hn1, hlen⟩ : 0 < v.size ∧ 0 ≤ n ∧ n ≤ 1000 ∧ sy.length ≤ 1000 := hp
    obtain ⟨tok, rfl⟩ : ∃ tok, qs = [.str v, .lst 3 (sy.map encT) tok, .int .i64 n] := by
      match qs, has with
      | [a, b, c], has =>
        have h2 : [a.bare, b.bare, c.bare] = [.str v, encE (.lst (.nm 0)) sy, .int .i64 n] := has
        have h1 := (List.cons.inj h2).1
        have h2 := (List.cons.inj h2).2
        have h3 := (List.cons.inj h2).1
        have h5 := (List.cons.inj (List.cons.inj h2).2).1
        have h4 : encE (.lst (.nm 0)) sy = .lst 3 (sy.map encT) .none := congrFun encEL sy
        rw [h4] at h3
        cases a <;> first | (cases h1; done) | skip
        cases h1
        cases c <;> first | (cases h5; done) | skip
        cases h5
        cases b <;> first | (cases h3; done) | skip
        rename_i sz xs tk _
        injection h3 with h6 h7
        exact ⟨tk, by rw [h6, h7]⟩
      | [], has => simp [encTs] at has
      | [_], has => simp [encTs] at has
      | [_, _], has => simp [encTs] at has
      | _ :: _ :: _ :: _ :: _, has => simp [encTs] at has
    obtain ⟨m, rfl⟩ : ∃ m : Nat, n = m := ⟨n.toNat, by omega⟩
    obtain ⟨fn, c, e1, e2, e3, e4, e5, e6⟩ := codeOf_spec hV.h48
    refine acall_of e1 e2 e3 e4 e5 (by rw [e6]; simp) ?_
    rw [e6]
    refine AW.seq (AW.reg ?_)
    rw [wpOps]; simp only [wpA, ev, argEnv, Env.get, Env.set, Env.put, reduceIte, Nat.reduceEqDiff, Nat.reduceAdd, reduceCtorEq, Nat.zero_add, AV.cells]
    refine ⟨rfl, fun b3 hb3 => ?_⟩
    have l3 := AH.le_put (.cells [.str v]) hb3
    have p3 : (σ.put b3 (.cells [.str v])) b3 = _ := AH.put_same _ _ _
    have q3 : ∀ c, c ≠ b3 → (σ.put b3 (.cells [.str v])) c = σ c := fun c hc => AH.put_ne _ _ hc
    generalize σ.put b3 (.cells [.str v]) = σ3 at l3 p3 q3 ⊢
    rw [wpOps]; simp only [wpA, ev, argEnv, Env.get, Env.set, Env.put, reduceIte, Nat.reduceEqDiff, Nat.reduceAdd, reduceCtorEq, Nat.zero_add, AV.cells]
    refine ⟨rfl, fun b4 hb4 => ?_⟩
    have l4 := AH.le_put (.cells [.lst 3 (sy.map encT) tok]) hb4
    have p4 : (σ3.put b4 (.cells [.lst 3 (sy.map encT) tok])) b4 = _ := AH.put_same _ _ _
    generalize σ3.put b4 (.cells [.lst 3 (sy.map encT) tok]) = σ4 at l4 p4 ⊢
    rw [wpOps]; simp only [wpA, ev, argEnv, Env.get, Env.set, Env.put, reduceIte, Nat.reduceEqDiff, Nat.reduceAdd, reduceCtorEq, Nat.zero_add, AV.cells]
    refine ⟨rfl, fun b5 hb5 => ?_⟩
    have l5 := AH.le_put (.cells [.int .i64 m]) hb5
    have p5 : (σ4.put b5 (.cells [.int .i64 m])) b5 = _ := AH.put_same _ _ _
    generalize σ4.put b5 (.cells [.int .i64 m]) = σ5 at l5 p5 ⊢
    rw [wpOps]; simp only [wpA, ev, argEnv, Env.get, Env.set, Env.put, reduceIte, Nat.reduceEqDiff, Nat.reduceAdd, reduceCtorEq, Nat.zero_add]
    rw [wpOps, TG.drop_nil]
    refine AW.seq (AW.reg ?_)
    rw [wpOps]; simp only [wpA, ev, Env.get, Env.set, Env.put, reduceIte, Nat.reduceEqDiff, reduceCtorEq, List.map]
    rw [wpOps]; simp only [wpA, ev, Env.get, Env.set, Env.put, reduceIte, Nat.reduceEqDiff, reduceCtorEq]
    intro b7 hb7
    rw [wpOps]; simp only [wpA, ev, Env.get, Env.set, Env.put, reduceIte, Nat.reduceEqDiff, reduceCtorEq, AH.put_same, AH.put_put, AV.cells, setAt, List.take, List.drop, List.length_cons, List.length_nil, List.set_cons_zero]
    refine ⟨trivial, rfl, by omega, ?_⟩
    have l7 := AH.le_put (.cells [.fn (.func a75) [] [.ptr b4 0]]) hb7
    have p7 : (σ5.put b7 (.cells [.fn (.func a75) [] [.ptr b4 0]])) b7 = _ := AH.put_same _ _ _
    generalize σ5.put b7 (.cells [.fn (.func a75) [] [.ptr b4 0]]) = σ7 at l7 p7 ⊢
    rw [wpOps, TG.drop_nil]
    refine AW.seq (AW.reg ?_)
    rw [wpOps]; simp only [wpA, ev, Env.get, Env.set, Env.put, reduceIte, Nat.reduceEqDiff, reduceCtorEq, List.map]
    rw [wpOps]; simp only [wpA, ev, Env.get, Env.set, Env.put, reduceIte, Nat.reduceEqDiff, reduceCtorEq, List.map]
    rw [wpOps, TG.drop_nil]
    refine AW.ret ?_
    simp only [atEnd, resW, AH.delAll, one1, Env.get, reduceIte, Nat.reduceEqDiff]
    refine ⟨List.nodup_nil, fun b hb => (by cases hb), ?_⟩
    have hall : σ.le σ7 := AH.le_trans l3 (AH.le_trans l4 (AH.le_trans l5 l7))
    -- what is kept: the old frame and the boxes
    let F : AH := fun c => if c = b3 ∨ c = b4 ∨ c = b5 ∨ c = b7 then σ7 c else w.fr c
    have s3 : σ b3 = none := hb3
    have s4 : σ b4 = none := AH.none_le l3 hb4
    have s5 : σ b5 = none := AH.none_le l3 (AH.none_le l4 hb5)
    have s7 : σ b7 = none := AH.none_le l3 (AH.none_le l4 (AH.none_le l5 hb7))
    have hF : F.le σ7 := fun c o hc => by
      simp only [F] at hc
      split at hc
      · exact hc
      · exact hall _ _ (hH.fr _ _ hc)
    have hw : w.fr.le F := fun c o hc => by
      simp only [F]
      rw [if_neg]
      · exact hc
      · have := hH.fr _ _ hc
        rintro (rfl | rfl | rfl | rfl)
        · rw [s3] at this; cases this
        · rw [s4] at this; cases this
        · rw [s5] at this; cases this
        · rw [s7] at this; cases this
    refine ⟨_, st, { w with fr := F }, hrun, rfl, HR.keep hH hall hF hw (fun c hc1 hc2 => ?_), ?_, ⟨fun _ _ => rfl, fun _ _ => rfl, rfl, hw⟩, Nat.le_refl _⟩
    · simp only [F] at hc1
      split at hc1
      · rename_i h
        rcases h with rfl | rfl | rfl | rfl <;> assumption
      · exact absurd hc2 hc1
    · have k3 : σ7 b3 = some (.cells [.str v]) := l7 _ _ (l5 _ _ (l4 _ _ p3))
      have k4 : σ7 b4 = some (.cells [.lst 3 (sy.map encT) tok]) := l7 _ _ (l5 _ _ p4)
      have k5 : σ7 b5 = some (.cells [.int .i64 m]) := l7 _ _ p5
      refine ⟨F, AH.le_refl _, ?_⟩
      have := iter_ok (P := P) (W := W) hC hV (fz := F) (bv := b3) (bu := b7) (bs := b5) (b4 := b4) (tok := tok) (sy := sy) (v := v) (n := m) hv (by omega) hlen (by simp only [F]; rw [if_pos (by simp)]; exact k3) (by simp only [F]; rw [if_pos (by simp)]; exact p7) (by simp only [F]; rw [if_pos (by simp)]; exact k5) (by simp only [F]; rw [if_pos (by simp)]; exact k4)
      rw [encEL]; exact this
end TV
end Go.AL
