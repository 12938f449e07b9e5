/- Functions of the program: what they return, and that they do. -/
import Derived.Test.YtiolpppbnbboiaaHandA

set_option linter.unusedVariables false
set_option linter.unusedSimpArgs false
namespace Go.AL
open Go.RowKit
set_option linter.unusedVariables false
set_option linter.unusedSectionVars false
set_option linter.unusedSimpArgs false

theorem AH.put_put (σ : AH) (b : Nat) (x y : AObj) : (σ.put b x).put b y = σ.put b y := by
  funext c; simp only [AH.put]; split <;> rfl

/-- What is told of a call's argument is forgotten in part. -/
theorem ACallV.bareArg {P : Program} {W : World} {fv x : AV} {σ : AH} {R : AV → AH → Prop} (h : ACallV P W fv [x.bare] σ R) : ACallV P W fv [x] σ R := by
  have key : ∀ {F : Gh} {first cap : List AV} {vs : List Value}, RelL F (first ++ [x] ++ cap) vs → RelL F (first ++ [x.bare] ++ cap) vs := by
    intro F first
    induction first with
    | nil => intro cap vs h; cases h with | cons h k => exact .cons h.bare k
    | cons a first ih => intro cap vs h; cases h with | cons h k => exact .cons h (ih k)
  cases fv with
  | fn f first cap =>
    cases f with
    | func g => exact ⟨h.1, fun F vs w hr hI => h.2 F vs w (key hr) hI⟩
    | yield l =>
      cases first with
      | nil => exact fun F vs w hr hI => h F vs w (key (first := []) (cap := []) hr) hI
      | cons => exact h.elim
    | _ => exact h.elim
  | _ => exact h.elim

namespace TG
open TA (Law)

def IsFn (y : AV) : Prop := ∃ fy ya yc, y = .fn fy ya yc
theorem IsFn.ok {y : AV} (h : IsFn y) : y.ok = true ∧ y.cells = [y] := by obtain ⟨_, _, _, rfl⟩ := h; exact ⟨rfl, rfl⟩

variable {P : Program} {W : World} {ys : List AV} {J : Nat → AH → AH → Prop} {E : AH → AH → Prop} {y : AV}

/-- A new object is held, too. -/
theorem claim (hL : Law P W ys J E y) {k : Nat} {I τ : AH} {b : Nat} {o : AObj} (hJ : J k I τ) (hb : τ b = none) :
    J k (I.put b o) (τ.put b o) ∧ I.le (I.put b o) ∧ (I.put b o) b = some o ∧ (∀ c, I c ≠ none → c ≠ b) := by
  have hI := hL.le _ _ _ hJ
  have hIb : I b = none := AH.none_le hI hb
  have h1 : I.le (I.put b o) := AH.le_put _ hIb
  refine ⟨hL.grow _ _ _ _ _ hJ (AH.le_put _ hb) h1 (fun c x hc => ?_) (fun c h2 h3 => ?_), h1, AH.put_same _ _ _, fun c hc => by rintro rfl; exact hc hIb⟩
  · by_cases hcb : c = b
    · subst hcb; rw [AH.put_same] at hc ⊢; exact hc
    · rw [AH.put_ne _ _ hcb] at hc ⊢; exact hI _ _ hc
  · by_cases hcb : c = b
    · subst hcb; exact hb
    · rw [AH.put_ne _ _ hcb] at h2; exact absurd h3 h2
/-- More heap. -/
theorem more (hL : Law P W ys J E y) {k : Nat} {I τ τ' : AH} (hJ : J k I τ) (h : τ.le τ') : J k I τ' :=
  hL.grow _ _ _ _ _ hJ h (AH.le_refl _) (AH.le_trans (hL.le _ _ _ hJ) h) fun c h1 h2 => absurd h2 h1

/-- Held from further on, with K in what is held. -/
def JU (J : Nat → AH → AH → Prop) (K : AH) (f : Nat → Nat) : Nat → AH → AH → Prop := fun k I τ => ∃ I2, I.le I2 ∧ K.le I2 ∧ J (f k) I2 τ
def EU (E : AH → AH → Prop) : AH → AH → Prop := fun I τ => ∃ I2, I.le I2 ∧ E I2 τ

theorem sub (hL : Law P W ys J E y) (K : AH) (f : Nat → Nat) {ys' : List AV} {y' : AV}
    (step : ∀ k x I τ, ys'[k]? = some x → K.le I → J (f k) I τ → ACallV P W y' [x] τ fun v τ' => I.le τ' ∧ ((v = .bool true ∧ J (f (k + 1)) I τ') ∨ (v = .bool false ∧ E I τ'))) :
    Law P W ys' (JU J K f) (EU E) y' := by
  refine ⟨?_, ?_, ?_, ?_, ?_, ?_⟩
  · rintro k I τ ⟨I2, h1, h2, h3⟩; exact AH.le_trans h1 (hL.le _ _ _ h3)
  · rintro k I τ I' τ' ⟨I2, h1, h2, h3⟩ h4 h5 h6 h7
    have hI2 := hL.le _ _ _ h3
    let I3 : AH := fun c => match I' c with
      | some o => some o
      | none => I2 c
    have e1 : I'.le I3 := fun c o hc => by simp only [I3, hc]
    have e2 : I3.le τ' := fun c o hc => by
      simp only [I3] at hc
      split at hc
      · rename_i o' ho; cases hc; exact h6 _ _ ho
      · exact h4 _ _ (hI2 _ _ hc)
    have e3 : I2.le I3 := fun c o hc => by
      simp only [I3]
      split
      · rename_i o' ho
        have g1 := h6 _ _ ho; have g2 := h4 _ _ (hI2 _ _ hc)
        rw [g1] at g2; exact g2
      · exact hc
    refine ⟨I3, e1, AH.le_trans h2 e3, hL.grow _ _ _ _ _ h3 h4 e3 e2 fun c g1 g2 => ?_⟩
    have g3 : I c = none := AH.none_le h1 g2
    refine h7 c ?_ g3
    intro g4
    simp only [I3, g4] at g1
    exact g1 g2
  · rintro k I τ I' ⟨I2, h1, h2, h3⟩ h4; exact ⟨I2, AH.le_trans h4 h1, h2, h3⟩
  · rintro I τ τ' ⟨I2, h1, h2⟩ h3; exact ⟨I2, h1, hL.growE _ _ _ h2 h3⟩
  · rintro I τ I' ⟨I2, h1, h2⟩ h3; exact ⟨I2, AH.le_trans h3 h1, h2⟩
  · rintro k x I τ hx ⟨I2, h1, h2, h3⟩
    refine wpA_mono_call (step k x I2 τ hx h2 h3) fun v τ' ⟨g1, g2⟩ => ⟨AH.le_trans h1 g1, ?_⟩
    rcases g2 with ⟨g2, g3⟩ | ⟨g2, g3⟩
    · exact .inl ⟨g2, I2, h1, h2, g3⟩
    · exact .inr ⟨g2, I2, h1, g3⟩

theorem post_sub (hL : Law P W ys J E y) {K : AH} {f : Nat → Nat} {k : Nat} {I : AH} {v : AV} {τ : AH} (h : TA.Post (JU J K f) (EU E) k I v τ) : TA.Post J E (f k) I v τ := by
  obtain ⟨h1, h2⟩ := h
  refine ⟨h1, ?_⟩
  rcases h2 with ⟨h2, I2, h3, h4, h5⟩ | ⟨h2, I2, h3, h4⟩
  · exact .inl ⟨h2, hL.shr _ _ _ _ h5 h3⟩
  · exact .inr ⟨h2, hL.shrE _ _ _ h4 h3⟩
theorem post_shr (hL : Law P W ys J E y) {k : Nat} {I I' : AH} {v : AV} {τ : AH} (h : TA.Post J E k I' v τ) (hI : I.le I') : TA.Post J E k I v τ := by
  obtain ⟨h1, h2⟩ := h
  refine ⟨AH.le_trans hI h1, ?_⟩
  rcases h2 with ⟨h2, h3⟩ | ⟨h2, h3⟩
  · exact .inl ⟨h2, hL.shr _ _ _ _ h3 hI⟩
  · exact .inr ⟨h2, hL.shrE _ _ _ h3 hI⟩

/-- These are handed on from k on. -/
def HasA (ys : List AV) (k : Nat) (l : List AV) : Prop := ∀ i x, l[i]? = some x → ys[k + i]? = some x
theorem HasA.app {k : Nat} {a b : List AV} (h : HasA ys k (a ++ b)) : HasA ys k a ∧ HasA ys (k + a.length) b := by
  refine ⟨fun i x hx => h i x ?_, fun i x hx => ?_⟩
  · rw [List.getElem?_append_left]; exact hx
    rcases Nat.lt_or_ge i a.length with h1 | h1
    · exact h1
    · rw [List.getElem?_eq_none h1] at hx; cases hx
  · have := h (a.length + i) x (by rw [List.getElem?_append_right (by omega)]; simpa using hx)
    rw [← this]; congr 1; omega
theorem HasA.cons {k : Nat} {a : AV} {b : List AV} (h : HasA ys k (a :: b)) : ys[k]? = some a ∧ HasA ys (k + 1) b := by
  have := HasA.app (a := [a]) (b := b) h
  exact ⟨by simpa using this.1 0 a rfl, this.2⟩
theorem HasA.self (l : List AV) : HasA l 0 l := fun i x hx => by rw [Nat.zero_add]; exact hx

def encL (r : List Tm) : AV := .lst 3 (r.map encT) .none
theorem drop_nil (e : Env) : Env.drop e [] = e := by simp [Env.drop]
/-- The frame ends with what a call has brought. -/
theorem ret_post {rv : Nat} {kk n : Nat} {I : AH} {env : Env} {τ : AH} {K : List AItem} {v : AV} (he : env.get rv = v) (h : TA.Post J E kk I v τ) :
    AW P W none n (atEnd [.t rv] (TA.Post J E kk I)) (.c .ret :: K) env τ [] := by
  refine AW.ret ?_
  simp only [atEnd, resW, AH.delAll, one1, he]
  exact ⟨List.nodup_nil, fun b hb => (by cases hb), h⟩

/-- What is new is left as it is, too. -/
theorem HR.keep [Uni3] {fr0 : F0} {w : Wd} {st : St} {σ σ' : AH} {ds : List Nat} (hH : HR P W fr0 w st σ ds) (hle : σ.le σ') {F : AH} (hF : F.le σ') (hw : w.fr.le F) (hn : ∀ c, F c ≠ none → w.fr c = none → σ c = none) :
    HR P W fr0 { w with fr := F } st σ' ds := by
  refine (hH.grow hle).upfr hF hw fun c hc1 hc2 => ?_
  have hc := hn c hc1 hc2
  refine ⟨fun x o hx e => ?_, fun i hi => ?_, fun o ho => ?_⟩
  · obtain ⟨ao, k1, k2⟩ := hH.obj x o hx
    rw [e, hc] at k1; cases k1
  · have hlv := hH.live i hi
    cases ht : w.tk i with
    | none => rfl
    | clip => rfl
    | own b' e lim =>
      rw [ht] at hlv
      by_cases g2 : b' = c
      · subst g2
        have : σ b' = some (.row e lim) := hlv
        rw [hc] at this; cases this
      · simpa [Tok.isOn] using g2
  · have := (hH.lrec c o ho).1
    rw [hc] at this; cases this
end TG
end Go.AL

namespace Sp
open Go.AL
/-- The first so many. -/
def cutN {α : Type} : Option Nat → List α → List α
  | none, l => l
  | some m, l => l.take m
def grp (l : List Tm) : Tm := .mk 4 ⟨#[]⟩ l
/-- All lists of just so many terms over symbols. -/
def lists (c : Option Nat) (sy : List Tm) : Nat → List (List Tm)
  | 0 => [[]]
  | n + 1 => cutN c ((sy.flatMap fun t => (lists c sy n).map (t :: ·)) ++ (List.finRange (n + 1)).flatMap fun (i : Fin (n + 1)) => (lists c sy i.val).flatMap fun kids => (lists c sy (n - i.val)).map (grp kids :: ·))
termination_by n => n
decreasing_by all_goals omega
theorem mem_cutN {α : Type} {c : Option Nat} {l : List α} {x : α} (h : x ∈ cutN c l) : x ∈ l := by
  cases c with
  | none => exact h
  | some m => exact List.mem_of_mem_take h
theorem finRange_flatMap {β : Type} (f : Nat → List β) : ∀ n : Nat, ((List.finRange n).flatMap fun (i : Fin n) => f i.val) = (List.range n).flatMap f := fun n => by
  have e : (List.finRange n).map (fun i : Fin n => i.val) = List.range n := List.ext_getElem (by simp) (by intro i h1 h2; simp)
  rw [← e, List.flatMap_map]
theorem lists_zero (c : Option Nat) (sy : List Tm) : lists c sy 0 = [[]] := by rw [lists]
theorem lists_succ (c : Option Nat) (sy : List Tm) (n : Nat) : lists c sy (n + 1) = cutN c ((sy.flatMap fun t => (lists c sy n).map (t :: ·)) ++ (List.range (n + 1)).flatMap fun i => (lists c sy i).flatMap fun kids => (lists c sy (n - i)).map (grp kids :: ·)) := by
  rw [lists]
  congr 2
  exact finRange_flatMap (fun i => (lists c sy i).flatMap fun kids => (lists c sy (n - i)).map (grp kids :: ·)) (n + 1)
theorem lists_each {c : Option Nat} {sy : List Tm} {p : Nat → List Tm → Prop} (h0 : p 0 []) (h1 : ∀ n t l, t ∈ sy → p n l → p (n + 1) (t :: l)) (h2 : ∀ i n k l, p i k → p n l → p (i + n + 1) (grp k :: l)) :
    ∀ (n : Nat), ∀ v ∈ lists c sy n, p n v := by
  intro n
  induction n using Nat.strongRecOn with
  | ind n ih =>
    cases n with
    | zero => intro v hv; rw [lists_zero] at hv; simp at hv; subst hv; exact h0
    | succ n =>
      intro v hv
      rw [lists_succ] at hv
      have hv := mem_cutN hv
      simp only [List.mem_append, List.mem_flatMap, List.mem_map, List.mem_range] at hv
      rcases hv with ⟨t, ht, r, hr, rfl⟩ | ⟨i, hi, k, hk, r, hr, rfl⟩
      · exact h1 n t r ht (ih n (by omega) r hr)
      · have := h2 i (n - i) k r (ih i (by omega) k hk) (ih (n - i) (by omega) r hr)
        rwa [show i + (n - i) + 1 = n + 1 by omega] at this
theorem lists_elen {c : Option Nat} {sy : List Tm} {n : Nat} : ∀ v ∈ lists c sy n, v.length ≤ n :=
  lists_each (p := fun n v => v.length ≤ n) (by simp) (fun n t l _ h => by simpa using h) (fun i n k l _ h => by simp only [List.length_cons]; omega) n
end Sp
namespace Go.AL
open Go.RowKit
set_option linter.unusedVariables false
set_option linter.unusedSectionVars false
set_option linter.unusedSimpArgs false
namespace TL
open TA (Law)
open TG

def K91 : AC := .seq (.reg [⟨(some 4), none, .mv (.c (.bool false))⟩] [])
 (.seq (.dreg [⟨(some 5), none, .ld false 1 (.t 1)⟩, ⟨(some 6), none, .ld true 3 (.t 2)⟩, ⟨(some 7), none, .bsl 3 1 (.agg [(.int .i64 0), (.str ⟨#[]⟩), (.lst 3 [] .clip)]) [(0, (.t 6))]⟩, ⟨(some 8), none, .mv (.t 0)⟩, ⟨(some 9), none, .app 3 (.t 7) (.t 8)⟩] [⟨(some 10), none, .call (.t 5) [(.t 9)]⟩, ⟨(some 4), none, .mv (.t 10)⟩] [])
  (.ret))
def K90 (a91 a76 : Nat) : AC := .seq (.reg [⟨(some 4), none, .box (.t 0)⟩, ⟨(some 6), none, .mv (.c (.bool false))⟩] [])
 (.seq (.reg [⟨(some 7), none, .ld false 1 (.t 2)⟩, ⟨(some 8), none, .mv (.t 1)⟩, ⟨(some 9), none, .mkf (.func a91) [] [(.t 3), (.t 4)]⟩, ⟨(some 10), none, .call (.c (.fn (.func a76) [] [])) [(.t 7), (.t 8), (.t 9)]⟩, ⟨(some 6), none, .mv (.t 10)⟩] [])
  (.ret))
def K92 : AC := .seq (.reg [⟨(some 5), none, .mv (.c (.bool false))⟩] [])
 (.seq (.reg [⟨(some 6), none, .ld false 1 (.t 1)⟩, ⟨(some 7), none, .mv (.t 0)⟩, ⟨(some 8), none, .build [(.int .i64 0), (.str ⟨#[]⟩), (.lst 3 [] .clip)] [(0, 1, (.c (.int .i64 4))), (2, 1, (.t 7))]⟩, ⟨(some 9), none, .ld false 1 (.t 2)⟩, ⟨(some 10), none, .bin .sub (.t 9) (.c (.int .i64 1))⟩, ⟨(some 11), none, .ld false 1 (.t 3)⟩, ⟨(some 12), none, .bin .sub (.t 10) (.t 11)⟩, ⟨(some 13), none, .call (.t 6) [(.t 8), (.t 12)]⟩, ⟨(some 5), none, .mv (.t 13)⟩] [])
  (.ret))
def B1 : AC := (.seq (.reg [⟨(some 19), none, .bin .lss (.t 18) (.t 17)⟩] [])
        (.seq (.cond (.t 19) (.skip)
          (.exit 0))
         (.seq (.block 1 (.seq (.reg [⟨(some 20), none, .ia 3 (.t 16) (.t 18)⟩, ⟨(some 21), none, .ld true 3 (.t 20)⟩, ⟨(some 9), none, .new [(.int .i64 0), (.str ⟨#[]⟩), (.lst 3 [] .clip)]⟩, ⟨none, none, .st 3 (.t 9) (.t 21)⟩] [])
            (.seq (.reg [⟨(some 22), none, .ld false 1 (.t 7)⟩, ⟨(some 23), none, .ld true 3 (.t 9)⟩, ⟨(some 24), none, .ld false 1 (.t 4)⟩, ⟨(some 25), none, .bin .sub (.t 24) (.c (.int .i64 1))⟩, ⟨(some 26), none, .call (.t 22) [(.t 23), (.t 25)]⟩, ⟨(some 27), none, .un .not (.t 26)⟩] [])
             (.cond (.t 27) (.seq (.reg [⟨(some 6), none, .mv (.c (.bool false))⟩] [])
               (.ret))
              (.skip)))))
          (.reg [⟨(some 28), none, .bin .add (.t 18) (.c (.int .i64 1))⟩, ⟨(some 18), none, .mv (.t 28)⟩] []))))
def B2 (a92 a76 : Nat) : AC := (.seq (.reg [⟨(some 31), none, .bin .lss (.t 30) (.t 29)⟩] [])
         (.seq (.cond (.t 31) (.skip)
           (.exit 2))
          (.seq (.block 3 (.seq (.reg [⟨(some 32), none, .mv (.t 30)⟩, ⟨(some 10), none, .new [(.int .i64 0)]⟩, ⟨none, none, .st 1 (.t 10) (.t 32)⟩] [])
             (.seq (.reg [⟨(some 33), none, .ld false 1 (.t 3)⟩, ⟨(some 34), none, .ld false 1 (.t 10)⟩, ⟨(some 35), none, .mkf (.func a92) [] [(.t 7), (.t 4), (.t 10)]⟩, ⟨(some 36), none, .call (.c (.fn (.func a76) [] [])) [(.t 33), (.t 34), (.t 35)]⟩, ⟨(some 37), none, .un .not (.t 36)⟩] [])
              (.cond (.t 37) (.seq (.reg [⟨(some 6), none, .mv (.c (.bool false))⟩] [])
                (.ret))
               (.skip)))))
           (.reg [⟨(some 38), none, .bin .add (.t 30) (.c (.int .i64 1))⟩, ⟨(some 30), none, .mv (.t 38)⟩] []))))
def C3 : AC := (.seq (.reg [⟨(some 6), none, .mv (.c (.bool true))⟩] [])
      (.ret))
def C2 (a92 a76 : Nat) : AC := (.seq (.seq (.reg [⟨(some 29), none, .ld false 1 (.t 4)⟩, ⟨(some 30), none, .mv (.c (.int .i64 0))⟩] [])
      (.block 2 (.loop (B2 a92 a76))))
     C3)
def K76 (a90 a92 a76 : Nat) : AC := .seq (.reg [⟨(some 3), none, .box (.t 0)⟩, ⟨(some 4), none, .box (.t 1)⟩, ⟨(some 5), none, .box (.t 2)⟩, ⟨(some 6), none, .mv (.c (.bool false))⟩] [])
 (.seq (.seq (.reg [⟨(some 11), none, .ld false 1 (.t 4)⟩, ⟨(some 12), none, .bin .eql (.t 11) (.c (.int .i64 0))⟩] [])
   (.cond (.t 12) (.seq (.reg [⟨(some 13), none, .ld false 1 (.t 5)⟩, ⟨(some 14), none, .call (.t 13) [(.c (.lst 3 [] .clip))]⟩, ⟨(some 6), none, .mv (.t 14)⟩] [])
     (.ret))
    (.skip)))
  (.seq (.reg [⟨(some 15), none, .mkf (.func a90) [] [(.t 3), (.t 5)]⟩, ⟨(some 7), none, .new [.nilf]⟩, ⟨none, none, .st 1 (.t 7) (.t 15)⟩] [])
   (.seq (.seq (.reg [⟨(some 16), none, .ld false 1 (.t 3)⟩, ⟨(some 17), none, .len (.t 16)⟩, ⟨(some 18), none, .mv (.c (.int .i64 0))⟩] [])
     (.block 0 (.loop B1)))
    (C2 a92 a76))))

variable {P : Program} {W : World} {a76 a90 a91 a92 : Nat} {sy : List Tm}

structure Codes (P : Program) (a76 a90 a91 a92 : Nat) : Prop where
  h76 : codeOf P a76 = some (39, [.t 6], K76 a90 a92 a76)
  h90 : codeOf P a90 = some (11, [.t 6], K90 a91 a76)
  h91 : codeOf P a91 = some (11, [.t 4], K91)
  h92 : codeOf P a92 = some (14, [.t 5], K92)

def Ls (sy : List Tm) (n : Nat) : List AV := (Sp.lists none sy n).map encL
def LsOK (P : Program) (W : World) (a76 : Nat) (sy : List Tm) (n : Nat) : Prop :=
  ∀ ys J E y, Law P W ys J E y → IsFn y → ∀ k I τ tok, HasA ys k (Ls sy n) → J k I τ →
    ACall P W a76 [.lst 3 (sy.map encT) tok, .int .i64 n, y] τ (TA.Post J E (k + (Ls sy n).length) I)

section
variable {ys : List AV} {J : Nat → AH → AH → Prop} {E : AH → AH → Prop} {y : AV}

theorem c91 (hc : codeOf P a91 = some (11, [.t 4], K91)) (hL : Law P W ys J E y) {b5 bt k : Nat} {I τ : AH} {t : Tm} {r : List Tm} (h5 : I b5 = some (.cells [y])) (ht : I bt = some (.cells (encN0 t)))
    (hr : r.length ≤ 8589934591) (hy : ys[k]? = some (encL (t :: r))) (hJ : J k I τ) : ACall P W a91 [encL r, .ptr b5 0, .ptr bt 0] τ (TA.Post J E (k + 1) I) := by
  obtain ⟨fn, c, e1, e2, e3, e4, e5, e6⟩ := codeOf_spec hc
  refine acall_of e1 e2 e3 e4 e5 (by rw [e6]; simp) ?_
  rw [e6]
  have hIτ := hL.le _ _ _ hJ
  refine AW.seq (AW.reg ?_)
  simp only [wpOps, wpA, ev, argEnv, Env.get, Env.set, Env.put, reduceIte, Nat.reduceEqDiff, Nat.reduceAdd, reduceCtorEq, Nat.zero_add, TG.drop_nil]
  refine AW.seq (AW.dreg ?_)
  have hcells : ∀ t : Tm, AV.agg (List.take 3 (List.drop 0 (encN0 t))) = encT t := fun t => by rw [encT_eq]; rfl
  simp only [wpD, wpH, wpA, AOp.isNew, ev, Env.get, Env.set, Env.put, reduceIte, Nat.reduceEqDiff, Nat.reduceAdd, reduceCtorEq, hIτ _ _ h5, hIτ _ _ ht, List.map, hcells]
  have hput : putElems 3 (List.replicate 1 (AV.agg [AV.int IntKind.i64 0, AV.str ⟨#[]⟩, AV.lst 3 [] Tok.clip]).bare) [(0, encT t)] = some [encT t] := by
    rw [encT_eq]; simp [putElems, encN0, AV.cells, AV.ok, AV.one, AV.bare, AV.bare1]
  simp only [hput]
  refine ⟨by simp, by simp [encN0], by simp [encN0, AV.one], by simp [AV.cells], by simp [AV.cells, AV.ok, AV.one], ?_⟩
  simp only [encL]
  refine ⟨trivial, trivial, by simp; omega, ?_⟩
  intro τ1 hτ1
  simp only [newsOf, AOp.isNew, wpNews]
  rw [wpOps]; simp only [wpA, ev, Env.get, Env.set, Env.put, reduceIte, Nat.reduceEqDiff, reduceCtorEq, List.map, List.getD_cons_zero]
  have hy' : ys[k]? = some (.lst 3 ([encT t] ++ r.map encT) .none) := hy
  refine wpA_mono_call (hL.step _ _ _ _ hy' (more hL hJ hτ1)) fun v τ2 hv => ?_
  rw [wpOps]; simp only [wpA, ev, Env.get, Env.set, Env.put, reduceIte, Nat.reduceEqDiff, reduceCtorEq]
  rw [wpOps, TG.drop_nil]
  exact ret_post rfl hv

theorem c90 (hC : Codes P a76 a90 a91 a92) {left : Nat} (ih : LsOK P W a76 sy left) (hL : Law P W ys J E y) (hyn : IsFn y) {b3 b5 k : Nat} {I τ : AH} {t : Tm} {tok : Tok} (h3 : I b3 = some (.cells [.lst 3 (sy.map encT) tok])) (h5 : I b5 = some (.cells [y]))
    (hl : left ≤ 1000) (hy : HasA ys k ((Sp.lists none sy left).map fun r => encL (t :: r))) (hJ : J k I τ) : ACall P W a90 [encT t, .int .i64 left, .ptr b3 0, .ptr b5 0] τ (TA.Post J E (k + (Ls sy left).length) I) := by
  obtain ⟨fn, c, e1, e2, e3, e4, e5, e6⟩ := codeOf_spec hC.h90
  refine acall_of e1 e2 e3 e4 e5 (by rw [e6]; simp) ?_
  rw [e6]
  have hok : (encT t).ok = true := by rw [encT_eq]; simp [AV.ok, AV.cells, encN0, AV.one]
  refine AW.seq (AW.reg ?_)
  simp only [wpOps, wpA, ev, argEnv, Env.get, Env.set, Env.put, reduceIte, Nat.reduceEqDiff, Nat.reduceAdd, reduceCtorEq, Nat.zero_add, TG.drop_nil]
  refine ⟨hok, fun b4 hb4 => ?_⟩
  have hce : (encT t).cells = encN0 t := by rw [encT_eq]; rfl
  rw [hce]
  obtain ⟨hJ1, hI1, hb, hne⟩ := claim hL (o := .cells (encN0 t)) hJ hb4
  generalize τ.put b4 (.cells (encN0 t)) = τ1 at hJ1 ⊢
  generalize hI' : I.put b4 (.cells (encN0 t)) = I1 at hJ1 hI1 hb
  have hIτ := hL.le _ _ _ hJ1
  refine AW.seq (AW.reg ?_)
  rw [wpOps]; simp only [wpA, ev, Env.get, Env.set, Env.put, reduceIte, Nat.reduceEqDiff, reduceCtorEq, hIτ _ _ (hI1 _ _ h3)]
  refine ⟨by simp, ?_⟩
  rw [wpOps]; simp only [wpA, ev, Env.get, Env.set, Env.put, reduceIte, Nat.reduceEqDiff, reduceCtorEq]
  rw [wpOps]; simp only [wpA, ev, Env.get, Env.set, Env.put, reduceIte, Nat.reduceEqDiff, reduceCtorEq, List.map]
  rw [wpOps]; simp only [wpA, ev, Env.get, Env.set, Env.put, reduceIte, Nat.reduceEqDiff, reduceCtorEq, List.map, List.getD_cons_zero]
  have hsub : Law P W (Ls sy left) (JU J I1 fun i => k + i) (EU E) (.fn (.func a91) [] [.ptr b5 0, .ptr b4 0]) := by
    refine sub hL I1 (fun i => k + i) fun i x I2 τ2 hx hK hJ2 => ?_
    unfold Ls at hx
    rw [List.getElem?_map] at hx
    cases hr : (Sp.lists none sy left)[i]? with
    | none => rw [hr] at hx; cases hx
    | some r =>
      rw [hr] at hx; cases hx
      have hlen := Sp.lists_elen r (List.mem_of_getElem? hr)
      exact c91 hC.h91 hL (hK _ _ (hI1 _ _ h5)) (hK _ _ hb) (by omega) (hy i _ (by rw [List.getElem?_map, hr]; rfl)) hJ2
  refine wpA_mono_call (show ACallV P W (AV.fn (Fn.func a76) [] []) [.lst 3 (sy.map encT) tok, .int .i64 left, .fn (.func a91) [] [.ptr b5 0, .ptr b4 0]] τ1 _ from
    ih _ _ _ _ hsub ⟨_, _, _, rfl⟩ 0 I1 τ1 tok (HasA.self _) ⟨I1, AH.le_refl _, AH.le_refl _, hJ1⟩) fun v τ2 hv => ?_
  rw [wpOps]; simp only [wpA, ev, Env.get, Env.set, Env.put, reduceIte, Nat.reduceEqDiff, reduceCtorEq]
  rw [wpOps, TG.drop_nil]
  have := post_shr hL (post_sub hL hv) hI1
  rw [Nat.zero_add] at this
  exact ret_post rfl this

theorem c92 (hC : Codes P a76 a90 a91 a92) {n left kk : Nat} (ih : LsOK P W a76 sy left) (hL : Law P W ys J E y) (hyn : IsFn y) {b3 b4 b5 b7 b10 k : Nat} {I τ : AH} {kids : List Tm} {tok : Tok} (h3 : I b3 = some (.cells [.lst 3 (sy.map encT) tok])) (h5 : I b5 = some (.cells [y]))
    (h4 : I b4 = some (.cells [.int .i64 n])) (h7 : I b7 = some (.cells [.fn (.func a90) [] [.ptr b3 0, .ptr b5 0]])) (h10 : I b10 = some (.cells [.int .i64 kk])) (hn : n ≤ 1000) (hk : kk < n) (hleft : left = n - 1 - kk)
    (hy : HasA ys k ((Sp.lists none sy left).map fun r => encL (Sp.grp kids :: r))) (hJ : J k I τ) : ACall P W a92 [encL kids, .ptr b7 0, .ptr b4 0, .ptr b10 0] τ (TA.Post J E (k + (Ls sy left).length) I) := by
  obtain ⟨fn, c, e1, e2, e3, e4, e5, e6⟩ := codeOf_spec hC.h92
  refine acall_of e1 e2 e3 e4 e5 (by rw [e6]; simp) ?_
  rw [e6]
  have hIτ := hL.le _ _ _ hJ
  refine AW.seq (AW.reg ?_)
  simp only [wpOps, wpA, ev, argEnv, Env.get, Env.set, Env.put, reduceIte, Nat.reduceEqDiff, Nat.reduceAdd, reduceCtorEq, Nat.zero_add, TG.drop_nil]
  refine AW.seq (AW.reg ?_)
  rw [wpOps]; simp only [wpA, ev, Env.get, Env.set, Env.put, reduceIte, Nat.reduceEqDiff, reduceCtorEq, hIτ _ _ h7]
  refine ⟨by simp, ?_⟩
  rw [wpOps]; simp only [wpA, ev, Env.get, Env.set, Env.put, reduceIte, Nat.reduceEqDiff, reduceCtorEq]
  rw [wpOps]; simp only [wpA, ev, Env.get, Env.set, Env.put, reduceIte, Nat.reduceEqDiff, reduceCtorEq, List.map]
  have hput : putParts [.int .i64 0, .str ⟨#[]⟩, .lst 3 [] .clip] [(0, 1, .int .i64 4), (2, 1, encL kids)] = some (encN0 (Sp.grp kids)) := by
    simp [putParts, AV.cells, AV.ok, AV.one, encL, setAt, encN0, Sp.grp, Tm.kind, Tm.text, Tm.kids]
  rw [hput]
  refine ⟨by simp [AV.one], ?_⟩
  rw [← encT_eq]
  rw [wpOps]; simp only [wpA, ev, Env.get, Env.set, Env.put, reduceIte, Nat.reduceEqDiff, reduceCtorEq, hIτ _ _ h4]
  refine ⟨by simp, ?_⟩
  simp only [List.getD_cons_zero]
  rw [wpOps]; simp only [wpA, binA, ev, Env.get, Env.set, Env.put, reduceIte, Nat.reduceEqDiff, reduceCtorEq]
  refine ⟨trivial, ?_⟩
  rw [wpOps]; simp only [wpA, ev, Env.get, Env.set, Env.put, reduceIte, Nat.reduceEqDiff, reduceCtorEq, hIτ _ _ h10]
  refine ⟨by simp, ?_⟩
  simp only [List.getD_cons_zero]
  rw [wpOps]; simp only [wpA, binA, ev, Env.get, Env.set, Env.put, reduceIte, Nat.reduceEqDiff, reduceCtorEq]
  refine ⟨trivial, ?_⟩
  have ew : IntKind.i64.wrap (IntKind.i64.wrap ((n : Int) - 1) - kk) = (left : Int) := by
    rw [inR_wrap (inR64 (x := (n : Int) - 1) (by omega)), inR_wrap (inR64 (by omega))]; omega
  rw [ew]
  rw [wpOps]; simp only [wpA, ev, Env.get, Env.set, Env.put, reduceIte, Nat.reduceEqDiff, reduceCtorEq, List.map]
  refine wpA_mono_call (show ACallV P W (AV.fn (Fn.func a90) [] [.ptr b3 0, .ptr b5 0]) [encT (Sp.grp kids), .int .i64 left] τ _ from
    c90 hC ih hL hyn h3 h5 (by omega) hy hJ) fun v τ2 hv => ?_
  rw [wpOps]; simp only [wpA, ev, Env.get, Env.set, Env.put, reduceIte, Nat.reduceEqDiff, reduceCtorEq]
  rw [wpOps, TG.drop_nil]
  exact ret_post rfl hv

def EV2 (b3 b4 b7 : Nat) : Env := [(3, .ptr b3 0), (4, .ptr b4 0), (7, .ptr b7 0)]
def EVi (b3 b4 b7 : Nat) (L : AV) (n i : Int) : Env := [(3, .ptr b3 0), (4, .ptr b4 0), (7, .ptr b7 0), (16, L), (17, .int .i64 n), (18, .int .i64 i)]
def EVk (b3 b4 b7 : Nat) (n i : Int) : Env := [(3, .ptr b3 0), (4, .ptr b4 0), (7, .ptr b7 0), (29, .int .i64 n), (30, .int .i64 i)]

theorem retF {rv z kk n : Nat} {I I0 : AH} {env : Env} {τ : AH} {K : List AItem} (hz : env.get z = .bool true) (hI : I.le τ) (hE : E I τ) (hL : Law P W ys J E y) (h0 : I0.le I) :
    AW P W none n (atEnd [.t rv] (TA.Post J E kk I0)) (.c (.cond (.t z) (.seq (.reg [⟨(some rv), none, .mv (.c (.bool false))⟩] []) .ret) .skip) :: K) env τ [] := by
  refine AW.cond (b := true) (by simpa [ev] using hz) ?_
  refine AW.seq (AW.reg ?_)
  simp only [wpOps, wpA, ev, Env.set, TG.drop_nil]
  refine ret_post (Env.get_put_same _ _ _) ?_
  exact ⟨AH.le_trans h0 hI, .inr ⟨rfl, hL.shrE _ _ _ hE h0⟩⟩

theorem hasA_block {X : Type} {g : X → List AV} {m : Nat} : ∀ {l : List X} {k i : Nat} {x : X}, (∀ x ∈ l, (g x).length = m) → HasA ys k (l.flatMap g) → l[i]? = some x → HasA ys (k + i * m) (g x)
  | a :: l, k, 0, x, hm, h, hx => by
    simp only [List.getElem?_cons_zero, Option.some.injEq] at hx; subst hx
    rw [List.flatMap_cons] at h
    simpa using h.app.1
  | a :: l, k, i + 1, x, hm, h, hx => by
    rw [List.flatMap_cons] at h
    have h2 := h.app.2
    rw [hm a (by simp)] at h2
    have := hasA_block (fun x hx => hm x (by simp [hx])) h2 (by simpa using hx)
    rwa [show k + m + i * m = k + (i + 1) * m by rw [Nat.add_mul]; omega] at this

def blk (sy : List Tm) (n i : Nat) : List (List Tm) := (Sp.lists none sy i).flatMap fun kids => (Sp.lists none sy (n - i)).map (Sp.grp kids :: ·)

theorem loop2 (hC : Codes P a76 a90 a91 a92) {n : Nat} (ih : ∀ m, m ≤ n → LsOK P W a76 sy m) (hL : Law P W ys J E y) (hyn : IsFn y) {b3 b4 b5 b7 kend : Nat} {I I0 : AH} {tok : Tok} (h3 : I b3 = some (.cells [.lst 3 (sy.map encT) tok])) (h5 : I b5 = some (.cells [y]))
    (h4 : I b4 = some (.cells [.int .i64 (n + 1 : Nat)])) (h7 : I b7 = some (.cells [.fn (.func a90) [] [.ptr b3 0, .ptr b5 0]])) (hn : n < 1000) (h0 : I0.le I) : ∀ (d i k : Nat) (τ : AH), i + d = n + 1 →
      HasA ys k (((List.range' i d).flatMap (blk sy n)).map encL) → k + (((List.range' i d).flatMap (blk sy n)).map encL).length = kend → J k I τ →
      AW P W none 39 (atEnd [.t 6] (TA.Post J E kend I0)) [.c (B2 a92 a76), .lp (B2 a92 a76), .blk 2, .c C3] (EVk b3 b4 b7 (n + 1 : Nat) i) τ [] := by
  intro d
  induction d with
  | zero =>
    intro i k τ hi hh hk hJ
    refine AW.seq (AW.reg ?_)
    simp only [wpOps, wpA, ev, EVk, Env.get, Env.set, Env.put, binA, reduceIte, Nat.reduceEqDiff]
    refine ⟨trivial, ?_⟩
    refine AW.seq ?_
    refine AW.cond (b := false) (by simp [ev, Env.get, Env.drop]; omega) ?_
    refine AW.exit (K' := [.c C3]) rfl ?_
    refine AW.seq (AW.reg ?_)
    simp only [wpOps, wpA, ev, Env.set, TG.drop_nil]
    refine ret_post (v := .bool true) (Env.get_put_same _ _ _) ?_
    have hke : k = kend := by simpa using hk
    subst hke
    exact ⟨AH.le_trans h0 (hL.le _ _ _ hJ), .inl ⟨rfl, hL.shr _ _ _ _ hJ h0⟩⟩
  | succ d ihd =>
    intro i k τ hi hh hk hJ
    refine AW.seq (AW.reg ?_)
    simp only [wpOps, wpA, ev, EVk, Env.get, Env.set, Env.put, binA, reduceIte, Nat.reduceEqDiff]
    refine ⟨trivial, ?_⟩
    refine AW.seq ?_
    refine AW.cond (b := true) (by simp [ev, Env.get, Env.drop]; omega) ?_
    refine AW.skip (AW.seq (AW.block (AW.seq (AW.reg ?_))))
    simp only [TG.drop_nil]
    rw [wpOps]; simp only [wpA, ev, Env.get, Env.set, Env.put, reduceIte, Nat.reduceEqDiff, reduceCtorEq]
    rw [wpOps]; simp only [wpA, ev, Env.get, Env.set, Env.put, reduceIte, Nat.reduceEqDiff, reduceCtorEq]
    intro b10 hb10
    rw [wpOps]; simp only [wpA, ev, Env.get, Env.set, Env.put, reduceIte, Nat.reduceEqDiff, reduceCtorEq, AH.put_same, AH.put_put, AV.cells, AV.ok, setAt, List.take, List.drop, List.length_cons, List.length_nil, List.nil_append, Nat.zero_add, List.append_nil]
    refine ⟨trivial, rfl, by omega, ?_⟩
    simp only [List.set_cons_zero]
    obtain ⟨hJ1, hI1, hb, hne⟩ := claim hL (o := .cells [.int .i64 i]) hJ hb10
    generalize τ.put b10 (.cells [.int .i64 i]) = τ1 at hJ1 ⊢
    generalize hI' : I.put b10 (.cells [.int .i64 i]) = I1 at hJ1 hI1 hb
    have hIτ := hL.le _ _ _ hJ1
    refine AW.seq (AW.reg ?_)
    rw [wpOps]; simp only [wpA, ev, Env.get, Env.set, Env.put, reduceIte, Nat.reduceEqDiff, reduceCtorEq, hIτ _ _ (hI1 _ _ h3)]
    refine ⟨by simp, ?_⟩
    simp only [List.getD_cons_zero]
    rw [wpOps]; simp only [wpA, ev, Env.get, Env.set, Env.put, reduceIte, Nat.reduceEqDiff, reduceCtorEq, hIτ _ _ hb]
    refine ⟨by simp, ?_⟩
    simp only [List.getD_cons_zero]
    rw [wpOps]; simp only [wpA, ev, Env.get, Env.set, Env.put, reduceIte, Nat.reduceEqDiff, reduceCtorEq, List.map]
    rw [wpOps]; simp only [wpA, ev, Env.get, Env.set, Env.put, reduceIte, Nat.reduceEqDiff, reduceCtorEq, List.map]
    rw [List.range'_succ, List.flatMap_cons, List.map_append] at hh hk
    obtain ⟨hh1, hh2⟩ := hh.app
    obtain ⟨m, hm⟩ : ∃ x, x = (Sp.lists none sy (n - i)).length := ⟨_, rfl⟩
    have hm' : (Ls sy (n - i)).length = m := by rw [hm]; simp [Ls]
    have hsub : Law P W (Ls sy i) (JU J I1 fun q => k + q * m) (EU E) (.fn (.func a92) [] [.ptr b7 0, .ptr b4 0, .ptr b10 0]) := by
      refine sub hL I1 (fun q => k + q * m) fun q x I2 τ2 hx hK hJ2 => ?_
      unfold Ls at hx
      rw [List.getElem?_map] at hx
      cases hr : (Sp.lists none sy i)[q]? with
      | none => rw [hr] at hx; cases hx
      | some r =>
        rw [hr] at hx; cases hx
        have hb2 : HasA ys (k + q * m) ((Sp.lists none sy (n - i)).map fun u => encL (Sp.grp r :: u)) := by
          unfold blk at hh1
          rw [List.map_flatMap] at hh1
          have := hasA_block (m := m) (g := fun kids => ((Sp.lists none sy (n - i)).map (Sp.grp kids :: ·)).map encL) (fun x _ => by simp [hm]) hh1 hr
          simpa [List.map_map, Function.comp_def] using this
        have := c92 hC (n := n + 1) (left := n - i) (kk := i) (ih _ (Nat.sub_le _ _)) hL hyn (hK _ _ (hI1 _ _ h3)) (hK _ _ (hI1 _ _ h5)) (hK _ _ (hI1 _ _ h4)) (hK _ _ (hI1 _ _ h7)) (hK _ _ hb) (by omega) (by omega) (by omega) hb2 hJ2
        rw [show k + (q + 1) * m = k + q * m + (Ls sy (n - i)).length by rw [hm', Nat.add_mul, Nat.one_mul, Nat.add_assoc]]
        exact this
    refine wpA_mono_call (show ACallV P W (AV.fn (Fn.func a76) [] []) [.lst 3 (sy.map encT) tok, .int .i64 i, .fn (.func a92) [] [.ptr b7 0, .ptr b4 0, .ptr b10 0]] τ1 _ from
      ih i (by omega) _ _ _ _ hsub ⟨_, _, _, rfl⟩ 0 I1 τ1 tok (HasA.self _) ⟨I1, AH.le_refl _, AH.le_refl _, by simpa using hJ1⟩) fun v τ2 hv => ?_
    obtain ⟨hv1, hv2⟩ := post_shr hL (post_sub hL hv) hI1
    have hlen : k + (0 + (Ls sy i).length) * m = k + ((blk sy n i).map encL).length := by
      unfold blk
      rw [Nat.zero_add, List.length_map, List.length_flatMap]
      have : ∀ l : List (List Tm), (l.map fun kids => ((Sp.lists none sy (n - i)).map (Sp.grp kids :: ·)).length).sum = l.length * m := by
        intro l
        induction l with
        | nil => simp
        | cons a l ih => rw [List.map_cons, List.sum_cons, ih, List.length_map, ← hm, List.length_cons, Nat.add_mul]; omega
      rw [this]; simp [Ls]
    rw [hlen] at hv2
    rcases hv2 with ⟨rfl, hJ3⟩ | ⟨rfl, hE3⟩
    · rw [wpOps]; simp only [wpA, unA, ev, Env.get, Env.set, Env.put, reduceIte, Nat.reduceEqDiff, reduceCtorEq, List.map, Bool.not_true]
      rw [wpOps]
      refine AW.cond (b := false) (by simp [ev, Env.get, Env.drop]) ?_
      refine AW.skip (AW.blk (AW.reg ?_))
      simp only [TG.drop_nil]
      rw [wpOps]; simp only [wpA, ev, Env.get, Env.set, Env.put, reduceIte, Nat.reduceEqDiff, reduceCtorEq, List.map, binA]
      refine ⟨trivial, ?_⟩
      rw [wpOps]; simp only [wpA, ev, Env.get, Env.set, Env.put, reduceIte, Nat.reduceEqDiff, reduceCtorEq, List.map]
      rw [wpOps]
      refine AW.lp (AW.forget (env' := EVk b3 b4 b7 (n + 1 : Nat) ((i + 1 : Nat) : Int)) (fun u => ?_) (ihd (i + 1) _ τ2 (by omega) hh2 ?_ hJ3))
      · have ew : IntKind.i64.wrap ((i : Int) + 1) = ((i + 1 : Nat) : Int) := by rw [inR_wrap (inR64 (by omega))]; omega
        simp only [TG.drop_nil, EVk, Env.get, ew]
        by_cases h3 : 3 = u
        · subst h3; simp
        by_cases h4 : 4 = u
        · subst h4; simp
        by_cases h7 : 7 = u
        · subst h7; simp
        by_cases h8 : 29 = u
        · subst h8; simp
        by_cases h9 : 30 = u
        · subst h9; simp
        simp [h3, h4, h7, h8, h9]
      · rw [List.length_append] at hk; omega
    · rw [wpOps]; simp only [wpA, unA, ev, Env.get, Env.set, Env.put, reduceIte, Nat.reduceEqDiff, reduceCtorEq, List.map, Bool.not_false]
      rw [wpOps]
      exact retF (by simp [Env.get, Env.drop]) hv1 hE3 hL h0

theorem loop1 (hC : Codes P a76 a90 a91 a92) {n : Nat} (ih : LsOK P W a76 sy n) (hL : Law P W ys J E y) (hyn : IsFn y) {b3 b4 b5 b7 kend kmid : Nat} {I I0 : AH} {tok : Tok} (h3 : I b3 = some (.cells [.lst 3 (sy.map encT) tok])) (h5 : I b5 = some (.cells [y]))
    (h4 : I b4 = some (.cells [.int .i64 (n + 1 : Nat)])) (h7 : I b7 = some (.cells [.fn (.func a90) [] [.ptr b3 0, .ptr b5 0]])) (hn : n < 1000) (hlen : sy.length < 9223372036854775808) (h0 : I0.le I)
    (hnext : ∀ τ, J kmid I τ → AW P W none 39 (atEnd [.t 6] (TA.Post J E kend I0)) [.c (C2 a92 a76)] (EV2 b3 b4 b7) τ []) : ∀ (r : List Tm) (i k : Nat) (τ : AH), sy = sy.take i ++ r → i ≤ sy.length →
      HasA ys k ((r.flatMap fun t => (Sp.lists none sy n).map (t :: ·)).map encL) → k + ((r.flatMap fun t => (Sp.lists none sy n).map (t :: ·)).map encL).length = kmid → J k I τ →
      AW P W none 39 (atEnd [.t 6] (TA.Post J E kend I0)) [.c B1, .lp B1, .blk 0, .c (C2 a92 a76)] (EVi b3 b4 b7 (.lst 3 (sy.map encT) tok) sy.length i) τ [] := by
  intro r
  induction r with
  | nil =>
    intro i k τ hr hi hh hk hJ
    have hil : sy.length = i := by have := congrArg List.length hr; simp at this; omega
    refine AW.seq (AW.reg ?_)
    simp only [wpOps, wpA, ev, EVi, Env.get, Env.set, Env.put, binA, reduceIte, Nat.reduceEqDiff]
    refine ⟨trivial, ?_⟩
    refine AW.seq ?_
    refine AW.cond (b := false) (by simp [ev, Env.get, Env.drop]; omega) ?_
    refine AW.exit (K' := [.c (C2 a92 a76)]) rfl ?_
    have hke : k = kmid := by simpa using hk
    subst hke
    refine AW.forget (env' := EV2 b3 b4 b7) (fun u => ?_) (hnext τ hJ)
    simp only [TG.drop_nil, EV2, Env.get]
    by_cases h3 : 3 = u
    · subst h3; simp
    by_cases h4 : 4 = u
    · subst h4; simp
    by_cases h7 : 7 = u
    · subst h7; simp
    simp [h3, h4, h7]
  | cons t r ihr =>
    intro i k τ hr hi hh hk hJ
    have hil : i < sy.length := by have := congrArg List.length hr; simp at this; omega
    have hget : (sy.map encT).getD i .any = encT t := by
      rw [List.getD_eq_getElem?_getD, List.getElem?_map, hr, List.getElem?_append_right (by simp; omega)]
      simp [Nat.min_eq_left (Nat.le_of_lt hil)]
    refine AW.seq (AW.reg ?_)
    simp only [wpOps, wpA, ev, EVi, Env.get, Env.set, Env.put, binA, reduceIte, Nat.reduceEqDiff]
    refine ⟨trivial, ?_⟩
    refine AW.seq ?_
    refine AW.cond (b := true) (by simp [ev, Env.get, Env.drop]; omega) ?_
    refine AW.skip (AW.seq (AW.block (AW.seq (AW.reg ?_))))
    simp only [TG.drop_nil]
    rw [wpOps]; simp only [wpA, ev, Env.get, Env.set, Env.put, reduceIte, Nat.reduceEqDiff, reduceCtorEq, hget, Int.toNat_natCast]
    refine ⟨trivial, by omega, by simp [hil], ?_⟩
    rw [encT_eq]
    rw [wpOps]; simp only [wpA, ev, Env.get, Env.set, Env.put, reduceIte, Nat.reduceEqDiff, reduceCtorEq]
    refine ⟨by simp [AV.cells, encN0], ?_⟩
    rw [wpOps]; simp only [wpA, ev, Env.get, Env.set, Env.put, reduceIte, Nat.reduceEqDiff, reduceCtorEq]
    intro b9 hb9
    rw [wpOps]; simp only [wpA, ev, Env.get, Env.set, Env.put, reduceIte, Nat.reduceEqDiff, reduceCtorEq, AH.put_same, AH.put_put, AV.cells, encN0, List.take, setAt, List.drop, List.length_cons, List.length_nil]
    refine ⟨trivial, rfl, by decide, ?_⟩
    simp only [List.set_cons_zero, List.set_cons_succ, Nat.zero_add]
    have hcl : [AV.int IntKind.i64 t.kind, AV.str t.text, AV.lst 3 (List.map encT t.kids) Tok.none] = encN0 t := rfl
    rw [hcl]
    have hτ1 : τ.le (τ.put b9 (.cells (encN0 t))) := AH.le_put _ hb9
    have hb9' : (τ.put b9 (.cells (encN0 t))) b9 = some (.cells (encN0 t)) := AH.put_same _ _ _
    generalize τ.put b9 (.cells (encN0 t)) = τ1 at hτ1 hb9' ⊢
    have hJ1 := more hL hJ hτ1
    have hIτ := hL.le _ _ _ hJ1
    have hx : AV.agg (List.take 3 (List.drop 0 (encN0 t))) = encT t := by rw [encT_eq]; rfl
    refine AW.seq (AW.reg ?_)
    rw [wpOps]; simp only [wpA, ev, Env.get, Env.set, Env.put, reduceIte, Nat.reduceEqDiff, reduceCtorEq, hIτ _ _ h7]
    refine ⟨by simp, ?_⟩
    simp only [List.getD_cons_zero]
    rw [wpOps]; simp only [wpA, ev, Env.get, Env.set, Env.put, reduceIte, Nat.reduceEqDiff, reduceCtorEq, hb9', hx]
    refine ⟨by simp [encN0], by simp [encN0, AV.one], ?_⟩
    rw [wpOps]; simp only [wpA, ev, Env.get, Env.set, Env.put, reduceIte, Nat.reduceEqDiff, reduceCtorEq, hIτ _ _ h4]
    refine ⟨by simp, ?_⟩
    simp only [List.getD_cons_zero]
    rw [wpOps]; simp only [wpA, binA, ev, Env.get, Env.set, Env.put, reduceIte, Nat.reduceEqDiff, reduceCtorEq]
    refine ⟨trivial, ?_⟩
    have ew : IntKind.i64.wrap (((n + 1 : Nat) : Int) - 1) = (n : Int) := by rw [inR_wrap (inR64 (by omega))]; omega
    rw [ew]
    rw [List.flatMap_cons, List.map_append] at hh hk
    obtain ⟨hh1, hh2⟩ := hh.app
    rw [wpOps]; simp only [wpA, ev, Env.get, Env.set, Env.put, reduceIte, Nat.reduceEqDiff, reduceCtorEq, List.map]
    refine wpA_mono_call (show ACallV P W (AV.fn (Fn.func a90) [] [.ptr b3 0, .ptr b5 0]) [encT t, .int .i64 n] τ1 _ from
      c90 hC ih hL hyn h3 h5 (by omega) (by simpa [List.map_map, Function.comp_def] using hh1) hJ1) fun v τ2 hv => ?_
    obtain ⟨hv1, hv2⟩ := hv
    have hl2 : ((Sp.lists none sy n).map (t :: ·)).length = (Ls sy n).length := by simp [Ls]
    rcases hv2 with ⟨rfl, hJ3⟩ | ⟨rfl, hE3⟩
    · rw [wpOps]; simp only [wpA, unA, ev, Env.get, Env.set, Env.put, reduceIte, Nat.reduceEqDiff, reduceCtorEq, List.map, Bool.not_true]
      rw [wpOps]
      refine AW.cond (b := false) (by simp [ev, Env.get, Env.drop]) ?_
      refine AW.skip (AW.blk (AW.reg ?_))
      simp only [TG.drop_nil]
      rw [wpOps]; simp only [wpA, ev, Env.get, Env.set, Env.put, reduceIte, Nat.reduceEqDiff, reduceCtorEq, List.map, binA]
      refine ⟨trivial, ?_⟩
      rw [wpOps]; simp only [wpA, ev, Env.get, Env.set, Env.put, reduceIte, Nat.reduceEqDiff, reduceCtorEq, List.map]
      rw [wpOps]
      refine AW.lp (AW.forget (env' := EVi b3 b4 b7 (.lst 3 (sy.map encT) tok) sy.length ((i + 1 : Nat) : Int)) (fun u => ?_) (ihr (i + 1) (k + (Ls sy n).length) τ2 ?_ hil ?_ ?_ hJ3))
      · have ew : IntKind.i64.wrap ((i : Int) + 1) = ((i + 1 : Nat) : Int) := by rw [inR_wrap (inR64 (by omega))]; omega
        simp only [TG.drop_nil, EVi, Env.get, ew]
        by_cases h3 : 3 = u
        · subst h3; simp
        by_cases h4 : 4 = u
        · subst h4; simp
        by_cases h7 : 7 = u
        · subst h7; simp
        by_cases h8 : 16 = u
        · subst h8; simp
        by_cases h9 : 17 = u
        · subst h9; simp
        by_cases h10 : 18 = u
        · subst h10; simp
        simp [h3, h4, h7, h8, h9, h10]
      · have e3 : List.take (i + 1) sy = List.take i sy ++ [t] := by
          rw [List.take_add_one]; congr 1
          rw [hr, List.getElem?_append_right (by simp; omega)]
          simp [Nat.min_eq_left (Nat.le_of_lt hil)]
        rw [e3]; simpa using hr
      · rw [List.length_map, hl2] at hh2; exact hh2
      · rw [List.length_append, List.length_map, hl2] at hk; omega
    · rw [wpOps]; simp only [wpA, unA, ev, Env.get, Env.set, Env.put, reduceIte, Nat.reduceEqDiff, reduceCtorEq, List.map, Bool.not_false]
      rw [wpOps]
      exact retF (by simp [Env.get, Env.drop]) hv1 hE3 hL h0
end

theorem lists_ok (hC : Codes P a76 a90 a91 a92) (hlen : sy.length < 9223372036854775808) : ∀ n : Nat, n ≤ 1000 → LsOK P W a76 sy n := by
  intro n
  induction n using Nat.strongRecOn with
  | ind n ih =>
    intro hn ys J E y hL hyn k I τ tok hh hJ
    obtain ⟨fn, c, e1, e2, e3, e4, e5, e6⟩ := codeOf_spec hC.h76
    refine acall_of e1 e2 e3 e4 e5 (by rw [e6]; simp) ?_
    rw [e6]
    have hI0 := hL.le _ _ _ hJ
    refine AW.seq (AW.reg ?_)
    rw [wpOps]; simp only [wpA, ev, argEnv, Env.get, Env.set, Env.put, reduceIte, Nat.reduceEqDiff, Nat.reduceAdd, reduceCtorEq, Nat.zero_add]
    refine ⟨rfl, fun b3 hb3 => ?_⟩
    obtain ⟨hJ3, hI3, hc3, hn3⟩ := claim hL (o := .cells (AV.cells (.lst 3 (sy.map encT) tok))) hJ hb3
    generalize τ.put b3 _ = τ3 at hJ3 ⊢
    generalize hI3' : I.put b3 _ = I3 at hJ3 hI3 hc3
    rw [wpOps]; simp only [wpA, ev, argEnv, Env.get, Env.set, Env.put, reduceIte, Nat.reduceEqDiff, Nat.reduceAdd, reduceCtorEq, Nat.zero_add]
    refine ⟨rfl, fun b4 hb4 => ?_⟩
    obtain ⟨hJ4, hI4, hc4, hn4⟩ := claim hL (o := .cells (AV.cells (.int .i64 n))) hJ3 hb4
    generalize τ3.put b4 _ = τ4 at hJ4 ⊢
    generalize hI4' : I3.put b4 _ = I4 at hJ4 hI4 hc4
    rw [wpOps]; simp only [wpA, ev, argEnv, Env.get, Env.set, Env.put, reduceIte, Nat.reduceEqDiff, Nat.reduceAdd, reduceCtorEq, Nat.zero_add]
    refine ⟨hyn.ok.1, fun b5 hb5 => ?_⟩
    rw [hyn.ok.2]
    obtain ⟨hJ5, hI5, hc5, hn5⟩ := claim hL (o := .cells [y]) hJ4 hb5
    generalize τ4.put b5 _ = τ5 at hJ5 ⊢
    generalize hI5' : I4.put b5 _ = I5 at hJ5 hI5 hc5
    rw [wpOps]; simp only [wpA, ev, argEnv, Env.get, Env.set, Env.put, reduceIte, Nat.reduceEqDiff, Nat.reduceAdd, reduceCtorEq, Nat.zero_add]
    rw [wpOps, TG.drop_nil]
    have k3 : I5 b3 = some (.cells [.lst 3 (sy.map encT) tok]) := hI5 _ _ (hI4 _ _ hc3)
    have k4 : I5 b4 = some (.cells [.int .i64 n]) := hI5 _ _ hc4
    have h05 : I.le I5 := AH.le_trans hI3 (AH.le_trans hI4 hI5)
    have hIτ := hL.le _ _ _ hJ5
    refine AW.seq (AW.seq (AW.reg ?_))
    rw [wpOps]; simp only [wpA, ev, Env.get, Env.set, Env.put, reduceIte, Nat.reduceEqDiff, reduceCtorEq, hIτ _ _ k4]
    refine ⟨by simp, ?_⟩
    simp only [List.getD_cons_zero]
    rw [wpOps]; simp only [wpA, binA, ev, Env.get, Env.set, Env.put, reduceIte, Nat.reduceEqDiff, reduceCtorEq]
    refine ⟨trivial, ?_⟩
    rw [wpOps, TG.drop_nil]
    cases n with
    | zero =>
      refine AW.cond (b := true) (by simp [ev, Env.get]) ?_
      refine AW.seq (AW.reg ?_)
      rw [wpOps]; simp only [wpA, ev, Env.get, Env.set, Env.put, reduceIte, Nat.reduceEqDiff, reduceCtorEq, hIτ _ _ hc5]
      refine ⟨by simp, ?_⟩
      simp only [List.getD_cons_zero]
      rw [wpOps]; simp only [wpA, ev, Env.get, Env.set, Env.put, reduceIte, Nat.reduceEqDiff, reduceCtorEq, List.map]
      have hls : Ls sy 0 = [encL []] := by unfold Ls; rw [Sp.lists_zero]; rfl
      rw [hls] at hh ⊢
      refine wpA_mono_call (ACallV.bareArg (x := .lst 3 [] .clip) (hL.step k (encL []) I5 τ5 (by simpa using hh 0 _ rfl) hJ5)) fun v τ6 hv => ?_
      rw [wpOps]; simp only [wpA, ev, Env.get, Env.set, Env.put, reduceIte, Nat.reduceEqDiff, reduceCtorEq]
      rw [wpOps, TG.drop_nil]
      exact ret_post rfl (post_shr hL hv h05)
    | succ n =>
      refine AW.cond (b := false) (by simp [ev, Env.get]; omega) (AW.skip ?_)
      have hls : Ls sy (n + 1) = ((sy.flatMap fun t => (Sp.lists none sy n).map (t :: ·)).map encL) ++ (((List.range' 0 (n + 1)).flatMap (blk sy n)).map encL) := by
        unfold Ls; rw [Sp.lists_succ, Sp.cutN, List.map_append, List.range_eq_range']; rfl
      rw [hls] at hh ⊢
      obtain ⟨hh1, hh2⟩ := hh.app
      refine AW.seq (AW.reg ?_)
      rw [wpOps]; simp only [wpA, ev, Env.get, Env.set, Env.put, reduceIte, Nat.reduceEqDiff, reduceCtorEq, List.map]
      rw [wpOps]; simp only [wpA, ev, Env.get, Env.set, Env.put, reduceIte, Nat.reduceEqDiff, reduceCtorEq]
      intro b7 hb7
      rw [wpOps]; simp only [wpA, ev, Env.get, Env.set, Env.put, reduceIte, Nat.reduceEqDiff, reduceCtorEq, AH.put_same, AH.put_put, AV.cells, setAt, List.take, List.drop, List.length_cons, List.length_nil, List.set_cons_zero]
      refine ⟨trivial, rfl, by omega, ?_⟩
      rw [wpOps, TG.drop_nil]
      obtain ⟨hJ7, hI7, hc7, hn7⟩ := claim hL (o := .cells [.fn (.func a90) [] [.ptr b3 0, .ptr b5 0]]) hJ5 hb7
      generalize τ5.put b7 _ = τ7 at hJ7 ⊢
      generalize hI7' : I5.put b7 _ = I7 at hJ7 hI7 hc7
      have hIτ7 := hL.le _ _ _ hJ7
      have g3 := hI7 _ _ k3
      have g4 := hI7 _ _ k4
      have g5 := hI7 _ _ hc5
      have h07 := AH.le_trans h05 hI7
      refine AW.seq (AW.seq (AW.reg ?_))
      rw [wpOps]; simp only [wpA, ev, Env.get, Env.set, Env.put, reduceIte, Nat.reduceEqDiff, reduceCtorEq, hIτ7 _ _ g3]
      refine ⟨by simp, ?_⟩
      simp only [List.getD_cons_zero]
      rw [wpOps]; simp only [wpA, ev, Env.get, Env.set, Env.put, reduceIte, Nat.reduceEqDiff, reduceCtorEq]
      intro hlen'
      rw [wpOps]; simp only [wpA, ev, Env.get, Env.set, Env.put, reduceIte, Nat.reduceEqDiff, reduceCtorEq]
      rw [wpOps, TG.drop_nil]
      rw [List.length_map]
      refine AW.block (AW.loop (AW.forget (env' := EVi b3 b4 b7 (.lst 3 (sy.map encT) tok) sy.length ((0 : Nat) : Int)) (fun u => ?_)
        (loop1 (kmid := k + ((sy.flatMap fun t => (Sp.lists none sy n).map (t :: ·)).map encL).length) hC (ih n (by omega) (by omega)) hL hyn g3 g5 g4 hc7 (by omega) hlen h07 (fun τ' hJ' => ?_) sy 0 k τ7 rfl (Nat.zero_le _) hh1 rfl hJ7)))
      · simp only [EVi, Env.get]
        by_cases h3 : 3 = u
        · subst h3; simp
        by_cases h4 : 4 = u
        · subst h4; simp
        by_cases h7 : 7 = u
        · subst h7; simp
        by_cases h8 : 16 = u
        · subst h8; simp
        by_cases h9 : 17 = u
        · subst h9; simp
        by_cases h10 : 18 = u
        · subst h10; simp
        simp [h3, h4, h7, h8, h9, h10]
      · have hIτ' := hL.le _ _ _ hJ'
        refine AW.seq (AW.seq (AW.reg ?_))
        simp only [EV2]
        rw [wpOps]; simp only [wpA, ev, Env.get, Env.set, Env.put, reduceIte, Nat.reduceEqDiff, reduceCtorEq, hIτ' _ _ g4]
        refine ⟨by simp, ?_⟩
        simp only [List.getD_cons_zero]
        rw [wpOps]; simp only [wpA, ev, Env.get, Env.set, Env.put, reduceIte, Nat.reduceEqDiff, reduceCtorEq]
        rw [wpOps, TG.drop_nil]
        refine AW.block (AW.loop (loop2 hC (fun m hm => ih m (by omega) (by omega)) hL hyn g3 g5 g4 hc7 (by omega) h07 (n + 1) 0 _ τ' (by omega) hh2 ?_ hJ'))
        rw [List.length_append]; omega
end TL
end Go.AL
