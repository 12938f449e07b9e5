/- Values, abstract memory, and what each operation does to it. -/
import Derived.RangeFuncIn
import Derived.OrdersIn
import Derived.Below
import Derived.KernelRfl
import Derived.Deep.AppendSrc
import Derived.Deep.Upon
import Derived.Laws.Strings
import Derived.Laws.Small
import Derived.Laws.Cover3
import Derived.Laws.Cover4
set_option linter.unusedVariables false
set_option linter.unusedSimpArgs false
namespace Go.AL
open Go.RowKit
inductive Tok where
 | none
 | clip
 | own (b e lim : Nat)
 deriving DecidableEq, Inhabited
inductive AV where
 | int (k : IntKind) (n : Int)
 | bool (b : Bool)
 | str (s : ByteArray)
 | flt (k : FloatKind) (bits : Nat)
 | agg (xs : List AV)
 | lst (sz : Nat) (xs : List AV) (t : Tok)
 | elt (xs : List AV)
 | ptr (b off : Nat)
 | nilp
 | slc (sz b off n c : Nat)
 | map (r : Option Nat)
 | fn (f : Fn) (first cap : List AV)
 | nilf
 | iface (t : TypeId) (v : AV)
 | nili
 | tup (xs : List AV)
 | any
 deriving Inhabited
def AV.cells : AV → List AV
 | .agg xs => xs
 | x => [x]
def AV.one : AV → Bool
 | .agg _ | .tup _ | .any => false
 | _ => true
def AV.ok (x : AV) : Bool := x.cells.all AV.one
/-! ### The abstract code -/
abbrev Env := List (Nat × AV)
def Env.get : Env → Nat → AV
 | [], _ => .any
 | (a, x) :: l, t => if a = t then x else Env.get l t
def Env.put : Env → Nat → AV → Env
 | [], t, v => [(t, v)]
 | (a, x) :: l, t, v => if a = t then (a, v) :: l else (a, x) :: Env.put l t v
def Env.drop (e : Env) (dead : List Nat) : Env := e.filter fun p => !dead.contains p.1
inductive AX where
 | t (n : Nat)
 | c (v : AV)
 deriving Inhabited
inductive AOp where
 | mv (x : AX)
 | pick (c a b : AX)
 | bin (op : BinOp) (x y : AX)
 | beq (neg : Bool) (x y : AX)
 | nilq (neg : Bool) (x : AX)
 | un (op : UnOp) (x : AX)
 | len (x : AX)
 | slen (x : AX)
 | cap (x : AX)
 | idx (x i : AX)
 | idxA (agg : Bool) (n sz : Nat) (x i : AX)
 | ia (sz : Nat) (x i : AX)
 | fa (off n : Nat) (x : AX)
 | nilck (x : AX)
 | ld (agg : Bool) (n : Nat) (x : AX)
 | st (n : Nat) (x v : AX)
 | new (zs : List AV)
 | box (x : AX)
 | fld (agg : Bool) (off n : Nat) (x : AX)
 | ext (i : Nat) (x : AX)
 | build (zs : List AV) (parts : List (Nat × Nat × AX))
 | bsl (sz len : Nat) (z : AV) (parts : List (Nat × AX))
 | app (sz : Nat) (x y : AX)
 | slc (sz : Nat) (x : AX) (lo hi mx : Option AX)
 | sub (x : AX) (lo hi : Option AX)
 | mkf (f : Fn) (first cap : List AX)
 | call (f : AX) (args : List AX)
 | minmax (isMax : Bool) (xs : List AX)
 | itoi (k : IntKind) (x : AX)
 | itos (x : AX)
 | mkmap
 | look (ok str : Bool) (z : AV) (m k : AX)
 | upd (str : Bool) (m k v : AX)
 | mlen (x : AX)
 | rng (x : AX)
 | nxt (x : AX)
 | appf (sz : Nat) (x i y v : AX)
 | mks (sz : Nat) (z : AV) (n c : AX)
 | iaA (n sz : Nat) (x i : AX)
 | aeq (neg : Bool) (n : Nat) (x y : AX)
 | appz (sz : Nat) (x n : AX)
 | bad
 deriving Inhabited
structure AI where
 dst : Option Nat
 guard : Option (Nat × Bool)
 op : AOp
 deriving Inhabited
inductive AC where
 | skip
 | seq (a b : AC)
 | reg (ops : List AI) (dead : List Nat)
 | dreg (head tail : List AI) (dead : List Nat)
 | cond (c : AX) (a b : AC)
 | block (id : Nat) (a : AC)
 | loop (a : AC)
 | exit (id : Nat)
 | ret
 | rangeF (f : AX) (params : List Nat) (assign body : AC)
 | bad
 deriving Inhabited
abbrev Gh := Nat → Nat → Option Value
def Gh.le (F G : Gh) : Prop := ∀ b i v, F b i = some v → G b i = some v
theorem Gh.le_refl (F : Gh) : F.le F := fun _ _ _ h => h
theorem Gh.le_trans {F G H : Gh} (h : F.le G) (k : G.le H) : F.le H := fun b i v x => k b i v (h b i v x)
def TokAt (b off len c sz : Nat) : Tok → Prop
 | .none => True
 | .clip => c = len
 | .own b' e lim => b' = b ∧ off + len * sz = e ∧ off + c * sz ≤ lim
mutual
inductive Rel (F : Gh) : AV → Value → Prop
 | int (k n) : Rel F (.int k n) (.int k n)
 | bool (b) : Rel F (.bool b) (.bool b)
 | str (s) (h : s.size < 9223372036854775808) : Rel F (.str s) (.string s)
 | flt (k b) : Rel F (.flt k b) (.float k b)
 | agg {xs : List AV} {vs : List Value} (ho : xs.all AV.one = true) (h : RelL F xs vs) : Rel F (.agg xs) (.agg ⟨vs⟩)
 | lnil (sz) (t : Tok) (p : Option Addr) (c : Nat) (h : t = .none ∨ (t = .clip ∧ c = 0)) (hm : c < 9223372036854775808) : Rel F (.lst sz [] t) (.slice p 0 c)
 | lst {sz : Nat} {xs : List AV} {t : Tok} {us : List Value} {b off c len : Nat} (ho : (xs.flatMap AV.cells).all AV.one = true) (h : RelL F (xs.flatMap AV.cells) us) (hi : ∀ i u, us[i]? = some u → F b (off + i) = some u)
   (hs : ∀ x ∈ xs, x.cells.length = sz) (hc : len ≤ c) (hm : c < 9223372036854775808) (ht : TokAt b off len c sz t) (hl : xs.length = len) :
   Rel F (.lst sz xs t) (.slice (some ⟨b, off, .none⟩) len c)
 | elt {xs : List AV} {us : List Value} {b off : Nat} (ho : xs.all AV.one = true) (h : RelL F xs us) (hi : ∀ i u, us[i]? = some u → F b (off + i) = some u) : Rel F (.elt xs) (.pointer (some ⟨b, off, .none⟩))
 | ptr (b off) : Rel F (.ptr b off) (.pointer (some ⟨b, off, .none⟩))
 | nilp : Rel F .nilp (.pointer .none)
 | slc (sz b off n c) : Rel F (.slc sz b off n c) (.slice (some ⟨b, off, .none⟩) n c)
 | map (r) : Rel F (.map r) (.map r)
 | fn (f) {xs ys : List AV} {us vs : List Value} (h : RelL F xs us) (k : RelL F ys vs) : Rel F (.fn f xs ys) (.func f ⟨us⟩ ⟨vs⟩)
 | nilf : Rel F .nilf .nilFunc
 | iface (t) {x : AV} {v : Value} (h : Rel F x v) : Rel F (.iface t x) (.iface t v)
 | nili : Rel F .nili .nilIface
 | tup {xs : List AV} {vs : List Value} (h : RelL F xs vs) : Rel F (.tup xs) (.tuple ⟨vs⟩)
 | any (v) : Rel F .any v
inductive RelL (F : Gh) : List AV → List Value → Prop
 | nil : RelL F [] []
 | cons {x : AV} {v : Value} {xs : List AV} {vs : List Value} (h : Rel F x v) (k : RelL F xs vs) : RelL F (x :: xs) (v :: vs)
end
theorem Rel.mono {F G : Gh} (hF : F.le G) {x : AV} {v : Value} (h : Rel F x v) : Rel G x v := by
 refine Rel.rec (motive_1 := fun x v _ => Rel G x v) (motive_2 := fun xs vs _ => RelL G xs vs) ?_ ?_ ?_ ?_ ?_ ?_ ?_ ?_ ?_ ?_ ?_ ?_ ?_ ?_ ?_ ?_ ?_ ?_ ?_ ?_ h
 ·exact fun k n => .int k n
 ·exact fun b => .bool b
 ·exact fun s h => .str s h
 ·exact fun k b => .flt k b
 ·exact fun ho _ ih => .agg ho ih
 ·exact fun sz t p c h hm => .lnil sz t p c h hm
 ·exact fun ho _ hi hs hc hm ht hl ih => .lst ho ih (fun i u hu => hF _ _ _ (hi i u hu)) hs hc hm ht hl
 ·exact fun ho _ hi ih => .elt ho ih (fun i u hu => hF _ _ _ (hi i u hu))
 ·exact fun b o => .ptr b o
 ·exact .nilp
 ·exact fun sz b o n c => .slc sz b o n c
 ·exact fun r => .map r
 ·exact fun f _ _ _ _ _ _ ih ik => .fn f ih ik
 ·exact .nilf
 ·exact fun t _ _ _ ih => .iface t ih
 ·exact .nili
 ·exact fun _ ih => .tup ih
 ·exact fun v => .any v
 ·exact .nil
 ·exact fun _ _ ih ik => .cons ih ik
theorem RelL.mono {F G : Gh} (hF : F.le G) : ∀ {xs : List AV} {vs : List Value}, RelL F xs vs → RelL G xs vs
 | [], [], _ => .nil
 | _ :: _, _ :: _, .cons h k => .cons (h.mono hF) (k.mono hF)
theorem RelL.length {F : Gh} : ∀ {xs : List AV} {vs : List Value}, RelL F xs vs → xs.length = vs.length
 | [], [], _ => rfl
 | _ :: _, _ :: _, .cons _ k => by simp [k.length]
theorem RelL.append {F : Gh} : ∀ {xs ys : List AV} {us vs : List Value}, RelL F xs us → RelL F ys vs → RelL F (xs ++ ys) (us ++ vs)
 | [], _, [], _, _, k => k
 | _ :: _, _, _ :: _, _, .cons h h', k => .cons h (h'.append k)
theorem RelL.get {F : Gh} : ∀ {xs : List AV} {vs : List Value} {i : Nat} {x : AV}, RelL F xs vs → xs[i]? = some x → ∃ v, vs[i]? = some v ∧ Rel F x v
 | [], _, _, _, _, hx => by simp at hx
 | _ :: _, _ :: _, 0, _, .cons h _, hx => by simp at hx; exact ⟨_, rfl, hx ▸ h⟩
 | _ :: _, _ :: _, i + 1, _, .cons _ k, hx => by simpa using k.get (i := i) (by simpa using hx)
theorem RelL.drop {F : Gh} : ∀ {xs : List AV} {vs : List Value} (n : Nat), RelL F xs vs → RelL F (xs.drop n) (vs.drop n)
 | _, _, 0, h => h
 | [], [], _ + 1, _ => .nil
 | _ :: _, _ :: _, n + 1, .cons _ k => k.drop n
theorem RelL.take {F : Gh} : ∀ {xs : List AV} {vs : List Value} (n : Nat), RelL F xs vs → RelL F (xs.take n) (vs.take n)
 | _, _, 0, _ => by simp; exact .nil
 | [], [], _ + 1, _ => .nil
 | _ :: _, _ :: _, n + 1, .cons h k => .cons h (k.take n)
theorem RelL.set {F : Gh} : ∀ {xs : List AV} {vs : List Value} {x : AV} {v : Value} (i : Nat), RelL F xs vs → Rel F x v → RelL F (xs.set i x) (vs.set i v)
 | [], [], _, _, _, _, _ => .nil
 | _ :: _, _ :: _, _, _, 0, .cons _ k, hx => .cons hx k
 | _ :: _, _ :: _, _, _, i + 1, .cons h k, hx => .cons h (k.set i hx)
theorem Rel.cells {F : Gh} {x : AV} {v : Value} (h : Rel F x v) (hx : x ≠ .any := by simp) : RelL F x.cells v.cells.toList := by
 cases h <;> first | exact absurd rfl hx | assumption | exact .cons (by constructor <;> assumption) .nil
theorem Rel.one {F : Gh} {x : AV} {v : Value} (h : Rel F x v) (ho : x.one = true) : v.oneCell' = true := by
 cases h <;> first | rfl | simp [AV.one] at ho
theorem RelL.one {F : Gh} : ∀ {xs : List AV} {vs : List Value}, RelL F xs vs → xs.all AV.one = true → ∀ u ∈ vs, u.oneCell' = true
 | [], [], _, _, _, hu => by cases hu
 | x :: xs, v :: vs, .cons h k, ho, u, hu => by
   simp only [List.all_cons, Bool.and_eq_true] at ho
   rcases List.mem_cons.1 hu with rfl | hu
   ·exact h.one ho.1
   ·exact k.one ho.2 u hu
inductive AObj where
 | cells (vs : List AV)
 | row (e lim : Nat)
 | map (es : List (AV × AV))
 | sit (s : ByteArray) (pos : Nat)
 | loop (st : LoopState) (pend : Option Code) (fn : FuncId) (n : Nat) (env : Env) (params : List Nat) (assign body : Code) (df : Nat)
 | marks
abbrev AH := Nat → Option AObj
def RelM (F : Gh) : List (AV × AV) → List MapEntry → Prop
 | [], [] => True
 | (k, v) :: es, m :: ms => Rel F k m.key ∧ Rel F v m.val ∧ RelM F es ms
 | _, _ => False
def EnvR (F : Gh) (n : Nat) (env : Env) (tmps : Array Value) : Prop :=
 tmps.size = n ∧ ∀ t, env.get t ≠ .any → ∃ v, tmps[t]? = some v ∧ Rel F (env.get t) v
theorem EnvR.mono {F G : Gh} (hF : F.le G) {n : Nat} {env : Env} {tmps : Array Value} (h : EnvR F n env tmps) : EnvR G n env tmps :=
 ⟨h.1, fun t ht => let ⟨v, h1, h2⟩ := h.2 t ht; ⟨v, h1, h2.mono hF⟩⟩
def Holds (F : Gh) (w : World) (b : Nat) : AObj → Prop
 | .cells vs => ∃ us T, w.heap[b]? = some (.cells ⟨us⟩ T (0, 0)) ∧ RelL F vs us
 | .row e lim => ∃ us T, w.heap[b]? = some (.cells us T (0, 0)) ∧ us.size = lim ∧ e ≤ lim
 | .map es => ∃ ms clock, w.heap[b]? = some (.map ⟨ms⟩ clock) ∧ RelM F es ms
 | .sit s pos => w.heap[b]? = some (.stringIter s pos)
 | .loop st pend fn n env params assign body df => ∃ tmps : Array Value, EnvR F n env tmps ∧ w.heap[b]? = some (.loop { state := st, pending := pend, fn, tmps := tmps, params := ⟨params⟩, assign, body, defers := df })
 | .marks => w.heap[b]? = some (.deferred (some []))
def AObj.free (F : Gh) (b : Nat) : AObj → Prop
 | .row e _ => ∀ i, e ≤ i → F b i = none
 | _ => ∀ i, F b i = none
structure Inv (w₀ : World) (F : Gh) (σ : AH) (w : World) : Prop where
 imm : ∀ b i v, F b i = some v → w.cell? ⟨b, i, none⟩ = some v
 obj : ∀ b o, σ b = some o → Holds F w b o
 apart : ∀ b o, σ b = some o → o.free F b
 new : ∀ b o, σ b = some o → w₀.heap.size ≤ b
 base : Below w₀.heap.size w₀ w
def AH.le (σ τ : AH) : Prop := ∀ b o, σ b = some o → τ b = some o
theorem AH.le_refl (σ : AH) : σ.le σ := fun _ _ h => h
theorem AH.le_trans {σ τ υ : AH} (h : σ.le τ) (k : τ.le υ) : σ.le υ := fun b o x => k b o (h b o x)
def AH.put (σ : AH) (b : Nat) (o : AObj) : AH := fun c => if c = b then some o else σ c
def AH.del (σ : AH) (b : Nat) : AH := fun c => if c = b then none else σ c
@[go_sem] theorem AH.put_same (σ : AH) (b : Nat) (o : AObj) : (σ.put b o) b = some o := by simp [AH.put]
theorem AH.put_ne (σ : AH) {b c : Nat} (o : AObj) (h : c ≠ b) : (σ.put b o) c = σ c := by simp [AH.put, h]
theorem AH.le_put {σ : AH} {b : Nat} (o : AObj) (h : σ b = none) : σ.le (σ.put b o) := fun c o' hc => by
 rw [AH.put_ne]; exact hc
 rintro rfl; rw [h] at hc; cases hc
theorem AH.le_none {σ τ : AH} (h : σ.le τ) {b : Nat} (hb : τ b = none) : σ b = none := by
 cases hs : σ b with
 | none => rfl
 | some o => rw [h b o hs] at hb; cases hb
end Go.AL
namespace Go.AL
set_option linter.unusedVariables false
set_option linter.unusedSectionVars false
open Go.RowKit
theorem Holds.congr {F : Gh} {w w' : World} {b : Nat} {o : AObj} (h : Holds F w b o) (e : w'.heap[b]? = w.heap[b]?) : Holds F w' b o := by
 cases o <;> simp only [Holds, e] at h ⊢ <;> exact h
theorem RelM.mono {F G : Gh} (hF : F.le G) : ∀ {es : List (AV × AV)} {ms : List MapEntry}, RelM F es ms → RelM G es ms
 | [], [], _ => trivial
 | (_, _) :: _, _ :: _, ⟨h, k, r⟩ => ⟨h.mono hF, k.mono hF, r.mono hF⟩
theorem Holds.mono {F G : Gh} (hF : F.le G) {w : World} {b : Nat} {o : AObj} (h : Holds F w b o) : Holds G w b o := by
 cases o with
 | cells vs => obtain ⟨us, T, h1, h2⟩ := h; exact ⟨us, T, h1, h2.mono hF⟩
 | row e lim => exact h
 | map es => obtain ⟨ms, c, h1, h2⟩ := h; exact ⟨ms, c, h1, h2.mono hF⟩
 | sit s p => exact h
 | loop st pend fn n env params assign body df => obtain ⟨tmps, h1, h2⟩ := h; exact ⟨tmps, h1.mono hF, h2⟩
 | marks => exact h
theorem Holds.lt {F : Gh} {w : World} {b : Nat} {o : AObj} (h : Holds F w b o) : b < w.heap.size := by
 rcases Nat.lt_or_ge b w.heap.size with hl | hl
 ·exact hl
 ·have hn : w.heap[b]? = none := Array.getElem?_eq_none hl
  cases o <;> simp [Holds, hn] at h
section
variable {w₀ : World} {F : Gh} {σ : AH} {w : World}
theorem Inv.fresh (h : Inv w₀ F σ w) : σ w.heap.size = none := by
 cases hs : σ w.heap.size with
 | none => rfl
 | some o => exact absurd (h.obj _ _ hs).lt (Nat.lt_irrefl _)
theorem Inv.freshF (h : Inv w₀ F σ w) {b : Nat} (hb : w.heap.size ≤ b) (i : Nat) : F b i = none := by
 cases hs : F b i with
 | none => rfl
 | some v =>
   have := World.block_lt_of_cell? _ _ (h.imm _ _ _ hs)
   exact absurd this (Nat.not_lt.2 hb)
theorem Inv.drew (h : Inv w₀ F σ w) : Inv w₀ F σ w.drew :=
 ⟨h.imm, fun b o hb => (h.obj b o hb).congr rfl, h.apart, h.new, h.base.drew⟩
def Gh.add (F : Gh) (b : Nat) (us : List Value) : Gh := fun c i => if c = b then us[i]? else F c i
theorem heap_alloc_lt (w : World) (o : Obj) {b : Nat} (h : b < w.heap.size) : (w.alloc o).heap[b]? = w.heap[b]? := Below.heap_alloc w o b h
theorem heap_alloc_new (w : World) (o : Obj) : (w.alloc o).heap[w.heap.size]? = some o := by
 show (w.heap.push o)[w.heap.size]? = some o
 simp
theorem Inv.allocImm (h : Inv w₀ F σ w) (us : List Value) (T : TypeId) :
  F.le (F.add w.heap.size us) ∧ Inv w₀ (F.add w.heap.size us) σ (w.alloc (.cells ⟨us⟩ T)) := by
 have hle : F.le (F.add w.heap.size us) := fun b i v hv => by
  have hne : b ≠ w.heap.size := by
   rintro rfl; rw [h.freshF (Nat.le_refl _)] at hv; cases hv
  simp [Gh.add, hne, hv]
 refine ⟨hle, ⟨fun b i v hv => ?_, fun b o hb => ?_, fun b o hb => ?_, h.new, h.base.alloc h.base.size _⟩⟩
 ·by_cases hbn : b = w.heap.size
  ·subst hbn
   simp only [Gh.add, if_true] at hv
   rw [World.cell?_alloc_new]; simpa using hv
  ·simp only [Gh.add, hbn, if_false] at hv
   rw [World.cell?_alloc_old _ _ _ hbn]; exact h.imm _ _ _ hv
 ·have hlt := (h.obj b o hb).lt
  exact ((h.obj b o hb).mono hle).congr (heap_alloc_lt _ _ hlt)
 ·have hne : b ≠ w.heap.size := by rintro rfl; rw [h.fresh] at hb; cases hb
  have := h.apart b o hb
  cases o <;> simp only [AObj.free, Gh.add, hne, if_false] at this ⊢ <;> exact this
theorem Inv.allocObj (h : Inv w₀ F σ w) (o : Obj) (ao : AObj) (hh : Holds F (w.alloc o) w.heap.size ao) :
  Inv w₀ F (σ.put w.heap.size ao) (w.alloc o) := by
 refine ⟨fun b i v hv => ?_, fun b x hb => ?_, fun b x hb => ?_, fun b x hb => ?_, h.base.alloc h.base.size _⟩
 ·have hne : b ≠ w.heap.size := by
   rintro rfl; rw [h.freshF (Nat.le_refl _)] at hv; cases hv
  rw [World.cell?_alloc_old _ _ _ hne]; exact h.imm _ _ _ hv
 ·by_cases hbn : b = w.heap.size
  ·subst hbn; rw [AH.put_same] at hb; cases hb; exact hh
  ·rw [AH.put_ne _ _ hbn] at hb
   exact (h.obj b x hb).congr (heap_alloc_lt _ _ (h.obj b x hb).lt)
 ·by_cases hbn : b = w.heap.size
  ·subst hbn; rw [AH.put_same] at hb; cases hb
   cases ao <;> simp only [AObj.free] <;> intros <;> exact h.freshF (Nat.le_refl _) _
  ·rw [AH.put_ne _ _ hbn] at hb; exact h.apart b x hb
 ·by_cases hbn : b = w.heap.size
  ·subst hbn; exact h.base.size
  ·rw [AH.put_ne _ _ hbn] at hb; exact h.new b x hb
theorem Inv.setObj (h : Inv w₀ F σ w) {b : Nat} {o : AObj} (hb : σ b = some o) (ho : ∀ i, F b i = none) (w' : World) (ao : AObj)
  (he : ∀ c, c ≠ b → w'.heap[c]? = w.heap[c]?) (hos : w'.os = w.os) (htape : w'.tape = w.tape) (hout : w'.output = w.output) (hsz : w'.heap.size = w.heap.size)
  (hh : Holds F w' b ao) : Inv w₀ F (σ.put b ao) w' := by
 have hn := h.new b o hb
 refine ⟨fun c i v hv => ?_, fun c x hc => ?_, fun c x hc => ?_, fun c x hc => ?_, ?_⟩
 ·have hne : c ≠ b := by rintro rfl; rw [ho] at hv; cases hv
  have := h.imm _ _ _ hv
  simpa [World.cell?, he c hne] using this
 ·by_cases hcb : c = b
  ·subst hcb; rw [AH.put_same] at hc; cases hc; exact hh
  ·rw [AH.put_ne _ _ hcb] at hc; exact (h.obj c x hc).congr (he c hcb)
 ·by_cases hcb : c = b
  ·subst hcb; rw [AH.put_same] at hc; cases hc
   cases ao <;> simp only [AObj.free] <;> intros <;> exact ho _
  ·rw [AH.put_ne _ _ hcb] at hc; exact h.apart c x hc
 ·by_cases hcb : c = b
  ·subst hcb; exact hn
  ·rw [AH.put_ne _ _ hcb] at hc; exact h.new c x hc
 ·exact h.base.trans ⟨hos, htape, hout, by omega, fun k hk => he k (by omega)⟩
theorem heap_setCell_same {w : World} {b off : Nat} {us : List Value} {T : TypeId} {fz : Nat × Nat} {v : Value} (hg : w.heap[b]? = some (.cells ⟨us⟩ T fz)) :
  (w.setCell ⟨b, off, none⟩ v).heap[b]? = some (.cells ⟨us.set off v⟩ T fz) := by
 simp [World.setCell, Array.getElem?_modify, hg]
def setAt {α : Type} : List α → Nat → List α → List α
 | xs, _, [] => xs
 | xs, o, y :: ys => setAt (xs.set o y) (o + 1) ys
theorem length_setAt {α : Type} : ∀ (ys xs : List α) (o : Nat), (setAt xs o ys).length = xs.length
 | [], _, _ => rfl
 | _ :: ys, xs, o => by rw [setAt, length_setAt ys]; simp
theorem heap_setCells_same {b : Nat} {T : TypeId} {fz : Nat × Nat} : ∀ (vs us : List Value) (off : Nat) (w : World), w.heap[b]? = some (.cells ⟨us⟩ T fz) →
  (w.setCells b off vs).heap[b]? = some (.cells ⟨setAt us off vs⟩ T fz)
 | [], _, _, _, hg => hg
 | v :: vs, us, off, w, hg => heap_setCells_same vs (us.set off v) (off + 1) (w.setCell ⟨b, off, none⟩ v) (heap_setCell_same hg)
theorem heap_setCells_ne {b c : Nat} (h : c ≠ b) : ∀ (vs : List Value) (off : Nat) (w : World), (w.setCells b off vs).heap[c]? = w.heap[c]?
 | [], _, _ => rfl
 | v :: vs, off, w => (heap_setCells_ne h vs (off + 1) _).trans (Below.heap_setCell w ⟨b, off, none⟩ v c h)
theorem size_setCells {b : Nat} : ∀ (vs : List Value) (off : Nat) (w : World), (w.setCells b off vs).heap.size = w.heap.size
 | [], _, _ => rfl
 | v :: vs, off, w => (size_setCells vs (off + 1) _).trans (World.size_setCell _ _ _)
theorem tape_setCells {b : Nat} : ∀ (vs : List Value) (off : Nat) (w : World), (w.setCells b off vs).tape = w.tape
 | [], _, _ => rfl
 | v :: vs, off, w => tape_setCells vs (off + 1) _
theorem RelL.setAt {F : Gh} : ∀ {ys : List AV} {vs : List Value} {xs : List AV} {us : List Value} (o : Nat), RelL F xs us → RelL F ys vs → RelL F (setAt xs o ys) (setAt us o vs)
 | [], [], _, _, _, h, _ => h
 | _ :: _, _ :: _, _, _, o, h, .cons k k' => RelL.setAt (o + 1) (h.set o k) k'
theorem Inv.cell (h : Inv w₀ F σ w) {b i : Nat} {vs : List AV} {x : AV} (hb : σ b = some (.cells vs)) (hx : vs[i]? = some x) : ∃ v, w.cell? ⟨b, i, none⟩ = some v ∧ Rel F x v := by
 obtain ⟨us, T, hg, hr⟩ := h.obj _ _ hb
 obtain ⟨v, hv, hrel⟩ := hr.get hx
 exact ⟨v, by simp [World.cell?, hg, hv], hrel⟩
theorem Inv.store (h : Inv w₀ F σ w) {b off : Nat} {vs ys : List AV} {us : List Value} (hb : σ b = some (.cells vs)) (hy : RelL F ys us) :
  Inv w₀ F (σ.put b (.cells (setAt vs off ys))) (w.setCells b off us) := by
 obtain ⟨cs, T, hg, hr⟩ := h.obj _ _ hb
 exact h.setObj hb (h.apart _ _ hb) _ _ (fun c hc => heap_setCells_ne hc us off w) (World.os_setCells _ _ _ _) (tape_setCells _ _ _) (World.output_setCells _ _ _ _) (size_setCells _ _ _)
  ⟨_, T, heap_setCells_same us cs off w hg, hr.setAt off hy⟩
theorem Inv.notFrozen (h : Inv w₀ F σ w) {b i : Nat} {vs : List AV} (hb : σ b = some (.cells vs)) : w.frozen? ⟨b, i, none⟩ = false := by
 obtain ⟨cs, T, hg, _⟩ := h.obj _ _ hb
 simp [World.frozen?, hg]
theorem Inv.freeze (h : Inv w₀ F σ w) {b : Nat} {vs : List AV} (hb : σ b = some (.cells vs)) :
  ∃ F' us, F.le F' ∧ Inv w₀ F' (σ.del b) w ∧ RelL F' vs us ∧ ∀ (i : Nat) (u : Value), us[i]? = some u → F' b i = some u := by
 obtain ⟨us, T, hg, hr⟩ := h.obj _ _ hb
 have hfree : ∀ i, F b i = none := h.apart _ _ hb
 have hle : F.le (F.add b us) := fun c i v hv => by
  have hne : c ≠ b := by rintro rfl; rw [hfree] at hv; cases hv
  simp [Gh.add, hne, hv]
 refine ⟨F.add b us, us, hle, ⟨fun c i v hv => ?_, fun c o hc => ?_, fun c o hc => ?_, fun c o hc => ?_, h.base⟩, hr.mono hle, fun i u hu => by simp [Gh.add, hu]⟩
 ·by_cases hcb : c = b
  ·subst hcb; simp only [Gh.add, if_true] at hv; simp [World.cell?, hg, hv]
  ·simp only [Gh.add, hcb, if_false] at hv; exact h.imm _ _ _ hv
 ·unfold AH.del at hc; split at hc
  ·cases hc
  ·exact (h.obj c o hc).mono hle
 ·unfold AH.del at hc; split at hc
  ·cases hc
  ·rename_i hne
   have := h.apart c o hc
   cases o <;> simp only [AObj.free, Gh.add, hne, if_false] at this ⊢ <;> exact this
 ·unfold AH.del at hc; split at hc
  ·cases hc
  ·exact h.new c o hc
theorem Inv.forget (h : Inv w₀ F σ w) {τ : AH} (hle : τ.le σ) : Inv w₀ F τ w :=
 ⟨h.imm, fun b o hb => h.obj b o (hle b o hb), fun b o hb => h.apart b o (hle b o hb), fun b o hb => h.new b o (hle b o hb), h.base⟩
end
end Go.AL
namespace Go.AL
open Go.RowKit
set_option linter.unusedVariables false
set_option linter.unusedSectionVars false
/-! ### Constants by their types -/
def cellAV (P : Program) (t : TypeId) : Value → Option AV
 | .int k n => some (.int k n)
 | .bool b => some (.bool b)
 | .string s => if s.size < 9223372036854775808 then some (.str s) else none
 | .float k b => some (.flt k b)
 | .slice none 0 0 => match P.underlying t with
   | some (.slice e) => (P.info? e).map fun i => .lst i.size [] .clip
   | _ => none
 | .pointer none => some .nilp
 | .map none => some (.map none)
 | .nilFunc => some .nilf
 | .nilIface => some .nili
 | .func f ⟨[]⟩ ⟨[]⟩ => some (.fn f [] [])
 | .iface t (.int k n) => some (.iface t (.int k n))
 | _ => none
def cellTys (P : Program) : Nat → TypeId → List TypeId
 | 0, t => [t]
 | d + 1, t => match P.underlying t with
   | some (.struct fs) => fs.toList.flatMap fun f => cellTys P d f.type
   | some (.array n e) => (List.replicate n (cellTys P d e)).flatten
   | _ => [t]
def cellsAV (P : Program) : List TypeId → List Value → Option (List AV)
 | [], [] => some []
 | t :: ts, v :: vs => (cellAV P t v).bind fun x => (cellsAV P ts vs).map fun xs => x :: xs
 | _, _ => none
def constAV (P : Program) (t : TypeId) : Value → Option AV
 | .agg ⟨cs⟩ => (cellsAV P (cellTys P 20 t) cs).map .agg
 | v => cellAV P t v
theorem cellAV_rel {P : Program} {t : TypeId} {v : Value} {x : AV} (h : cellAV P t v = some x) (F : Gh) : Rel F x v ∧ x.one = true := by
 unfold cellAV at h
 split at h
 case h_5 =>
  split at h
  ·cases hi : P.info? _ with
   | none => rw [hi] at h; cases h
   | some i => rw [hi] at h; cases h; exact ⟨.lnil _ _ _ _ (.inr ⟨rfl, rfl⟩) (by decide), rfl⟩
  ·cases h
 case h_3 =>
  split at h
  ·rename_i hs; cases h; exact ⟨.str _ hs, rfl⟩
  ·cases h
 all_goals first | (cases h; done) | (cases h; first | exact ⟨.fn _ .nil .nil, rfl⟩ | exact ⟨.iface _ (.int _ _), rfl⟩ | exact ⟨.nilp, rfl⟩ | exact ⟨.nilf, rfl⟩ | exact ⟨.nili, rfl⟩ | exact ⟨.map _, rfl⟩ | exact ⟨.int _ _, rfl⟩ | exact ⟨.bool _, rfl⟩ | exact ⟨.flt _ _, rfl⟩)
theorem cellsAV_rel {P : Program} (F : Gh) : ∀ {ts : List TypeId} {vs : List Value} {xs : List AV}, cellsAV P ts vs = some xs → RelL F xs vs ∧ xs.all AV.one = true
 | [], [], _, h => by cases h; exact ⟨.nil, rfl⟩
 | [], _ :: _, _, h => by cases h
 | _ :: _, [], _, h => by cases h
 | t :: ts, v :: vs, xs, h => by
   simp only [cellsAV, Option.bind_eq_some_iff, Option.map_eq_some_iff] at h
   obtain ⟨x, hx, ys, hy, rfl⟩ := h
   have h1 := cellAV_rel hx F
   have h2 := cellsAV_rel F hy
   exact ⟨.cons h1.1 h2.1, by simp [h1.2, h2.2]⟩
theorem constAV_rel {P : Program} {t : TypeId} {v : Value} {x : AV} (h : constAV P t v = some x) (F : Gh) : Rel F x v ∧ x.ok = true := by
 unfold constAV at h
 split at h
 ·simp only [Option.map_eq_some_iff] at h
  obtain ⟨xs, hx, rfl⟩ := h
  have := cellsAV_rel F hx
  exact ⟨.agg this.2 this.1, this.2⟩
 ·have := cellAV_rel h F
  refine ⟨this.1, ?_⟩
  have h1 := this.2
  cases x <;> first | (simp [AV.one] at h1; done) | rfl
/-! ### Operands -/
def cOpd (P : Program) (ty : TypeId) : Operand → Option AX
 | .tmp t => some (.t t)
 | .const v => (constAV P ty v).map .c
 | .func f => some (.c (.fn (.func f) [] []))
 | .global _ => none
def ev (env : Env) : AX → AV
 | .t n => env.get n
 | .c v => v
def cOpds (P : Program) : List TypeId → List Operand → Option (List AX)
 | _, [] => some []
 | ts, x :: xs => (cOpd P (ts.headD 0) x).bind fun y => (cOpds P ts.tail xs).map fun ys => y :: ys
def OpdR (P : Program) (F : Gh) (env : Env) (ρ : Operand → Value) (xs : List Operand) : Prop :=
 ∀ x ∈ xs, ∀ ty ax, cOpd P ty x = some ax → Rel F (ev env ax) (ρ x)
theorem OpdR.sub {P : Program} {F : Gh} {env : Env} {ρ : Operand → Value} {xs ys : List Operand} (h : OpdR P F env ρ xs) (hs : ∀ y ∈ ys, y ∈ xs) : OpdR P F env ρ ys :=
 fun y hy => h y (hs y hy)
theorem EnvR.opd {P : Program} {F : Gh} {n : Nat} {env : Env} {a : Act} (h : EnvR F n env a.tmps) (xs : List Operand) : OpdR P F env a.eval xs := by
 intro x _ ty ax hx
 cases x with
 | tmp t =>
   cases hx
   simp only [ev, Act.eval]
   by_cases ht : env.get t = .any
   ·rw [ht]; exact .any _
   ·obtain ⟨v, h1, h2⟩ := h.2 t ht
    rw [show a.tmps.getD t undef = v by simp [Array.getD_eq_getD_getElem?, h1]]; exact h2
 | const v =>
   simp only [cOpd, Option.map_eq_some_iff] at hx
   obtain ⟨y, hy, rfl⟩ := hx
   exact (constAV_rel hy F).1
 | global g => cases hx
 | func f => cases hx; exact .fn _ .nil .nil
theorem OpdR.list {P : Program} {F : Gh} {env : Env} {ρ : Operand → Value} : ∀ {xs : List Operand} {ts : List TypeId} {as : List AX}, OpdR P F env ρ xs → cOpds P ts xs = some as → RelL F (as.map (ev env)) (xs.map ρ)
 | [], _, _, _, h => by cases h; exact .nil
 | x :: xs, ts, as, hr, h => by
   simp only [cOpds, Option.bind_eq_some_iff, Option.map_eq_some_iff] at h
   obtain ⟨y, hy, ys, hys, rfl⟩ := h
   exact .cons (hr x (by simp) _ _ hy) (OpdR.list (hr.sub (fun z hz => by simp [hz])) hys)
/-! ### Shapes of types -/
def isAggD : TypeDesc → Bool
 | .struct _ | .array _ _ => true
 | _ => false
def szOf (P : Program) (t : TypeId) : Option Nat := (P.info? t).map (·.size)
def aggOf (P : Program) (t : TypeId) : Option Bool := (P.underlying t).map isAggD
def scalarD : TypeDesc → Bool
 | .int _ | .string => true
 | _ => false
/-! ### Forgetting the right to append -/
def AV.bare1 : AV → AV
 | .lst sz xs _ => .lst sz xs .none
 | x => x
def AV.bare : AV → AV
 | .agg xs => .agg (xs.map AV.bare1)
 | .lst sz xs _ => .lst sz xs .none
 | x => x
theorem Rel.bare1 {F : Gh} {x : AV} {v : Value} (h : Rel F x v) : Rel F x.bare1 v := by
 cases h with
 | lnil sz t p c h hm => exact .lnil _ _ _ _ (.inl rfl) hm
 | lst ho h hi hs hc hm ht hl => exact .lst ho h hi hs hc hm trivial hl
 | _ => first | assumption | (constructor <;> assumption)
theorem AV.one_bare1 (x : AV) : x.bare1.one = x.one := by cases x <;> rfl
theorem RelL.bare1 {F : Gh} : ∀ {xs : List AV} {vs : List Value}, RelL F xs vs → RelL F (xs.map AV.bare1) vs
 | [], [], _ => .nil
 | _ :: _, _ :: _, .cons h k => .cons h.bare1 k.bare1
theorem all_one_bare1 (xs : List AV) : (xs.map AV.bare1).all AV.one = xs.all AV.one := by
 induction xs with
 | nil => rfl
 | cons x xs ih => simp only [List.map_cons, List.all_cons, AV.one_bare1, ih]
theorem Rel.bare {F : Gh} {x : AV} {v : Value} (h : Rel F x v) : Rel F x.bare v := by
 cases h with
 | agg ho h => exact .agg (by rw [all_one_bare1]; exact ho) h.bare1
 | lnil sz t p c h hm => exact .lnil _ _ _ _ (.inl rfl) hm
 | lst ho h hi hs hc hm ht hl => exact .lst ho h hi hs hc hm trivial hl
 | _ => first | assumption | (constructor <;> assumption)
/-! ### Operations compiled -/
def cArrEq (P : Program) (neg : Bool) (t yt : TypeId) (n : Nat) (e : TypeId) (x y : Operand) : Option AOp :=
 match P.underlying e, szOf P e with
 | some (.int k), some 1 => if P.eqGuardType P.depth t = false then (cOpd P t x).bind fun a => (cOpd P yt y).map fun b => .aeq neg n a b else none
 | _, _ => none
def cBin (P : Program) (op : BinOp) (t : TypeId) (x y : Operand) (yt : TypeId) : Option AOp :=
 match P.underlying t with
 | none => none
 | some d =>
   if scalarD d then (cOpd P t x).bind fun a => (cOpd P yt y).map fun b => .bin op a b
   else match d, op, y with
    | .bool, .eql, _ => (cOpd P t x).bind fun a => (cOpd P yt y).map fun b => .beq false a b
    | .bool, .neq, _ => (cOpd P t x).bind fun a => (cOpd P yt y).map fun b => .beq true a b
    | .slice _, .eql, .const (.slice none 0 0) => (cOpd P t x).map fun a => .nilq false a
    | .slice _, .neq, .const (.slice none 0 0) => (cOpd P t x).map fun a => .nilq true a
    | .array n e, .eql, _ => cArrEq P false t yt n e x y
    | .array n e, .neq, _ => cArrEq P true t yt n e x y
    | _, _, _ => none
def placesOf (P : Program) : List Field → Option (List (Nat × Nat))
 | [] => some []
 | f :: fs => (szOf P f.type).bind fun n => (placesOf P fs).map fun l => (f.offset, n) :: l
def cParts (P : Program) (fs : Array Field) (pl : List (Nat × Nat)) : List (Nat × Operand) → Option (List (Nat × Nat × AX))
 | [] => some []
 | (i, x) :: r => (fs[i]?).bind fun f => (pl[i]?).bind fun p => (cOpd P f.type x).bind fun a => (cParts P fs pl r).map fun l => (p.1, p.2, a) :: l
def cElems (P : Program) (e : TypeId) : List (Nat × Operand) → Option (List (Nat × AX))
 | [] => some []
 | (i, x) :: r => (cOpd P e x).bind fun a => (cElems P e r).map fun l => (i, a) :: l
def cOptOpd (P : Program) : Option Operand → Option (Option AX)
 | none => some none
 | some x => (cOpd P 0 x).map some
def zeroAV (P : Program) (t : TypeId) : Option AV := (P.info? t).bind fun i => i.zero.bind fun z => constAV P t z
def cCall (P : Program) (c : Call) (type : TypeId) : Option AOp :=
 match c.callee with
 | .value f => (cOpd P 0 f).bind fun a => (cOpds P c.argTypes.toList c.args.toList).map fun as => .call a as
 | .builtin .len => match c.args, c.argTypes with
   | ⟨[x]⟩, ⟨[t]⟩ => match P.underlying t with
     | some .string => (cOpd P t x).map .slen
     | some (.slice _) => (cOpd P t x).map .len
     | some (.map _ _) => (cOpd P t x).map .mlen
     | _ => none
   | _, _ => none
 | .builtin .cap => match c.args, c.argTypes with
   | ⟨[x]⟩, ⟨[t]⟩ => match P.underlying t with
     | some (.slice _) => (cOpd P t x).map .cap
     | _ => none
   | _, _ => none
 | .builtin .max => (cOpds P c.argTypes.toList c.args.toList).map (.minmax true)
 | .builtin .min => (cOpds P c.argTypes.toList c.args.toList).map (.minmax false)
 | .builtin .append => match c.args, c.argTypes with
   | ⟨[x, y]⟩, ⟨[t, u]⟩ => match P.underlying t, P.underlying u with
     | some (.slice e), some (.slice e') => if e = e' then (P.info? e).bind fun i => (zeroAV P e).bind fun z => if i.bytes ≤ 4096 ∧ z.cells.length = i.size then (cOpd P t x).bind fun a => (cOpd P u y).map fun b => .app i.size a b else none else none
     | some (.slice e), some (.int _) => (P.info? e).bind fun i => (zeroAV P e).bind fun z => if i.bytes ≤ 4096 ∧ z.cells.length = i.size ∧ 0 < i.size then (cOpd P t x).bind fun a => (cOpd P u y).map fun b => .appz i.size a b else none
     | _, _ => none
   | _, _ => none
 | _ => none
def keyTy (P : Program) (t : TypeId) : Option Bool :=
 match P.underlying t with
 | some .string => some true
 | some (.int _) => some false
 | _ => none
def compOp0 (P : Program) (o : Oper) : Option AOp :=
 match o.op with
 | .move x | .assign x => (cOpd P o.type x).map .mv
 | .pick c a b => (cOpd P o.type c).bind fun c => (cOpd P o.type a).bind fun a => (cOpd P o.type b).map fun b => .pick c a b
 | .binOp op t x y yt => cBin P op t x y yt
 | .unOp op t x => (cOpd P t x).map fun a => .un op a
 | .alloc t => (zeroAV P t).map fun z => .new z.cells
 | .box t x => (cOpd P t x).map .box
 | .load t a => (cOpd P 0 a).bind fun a => (szOf P t).bind fun n => (aggOf P t).bind fun g => if g || n == 1 then some (.ld g n a) else none
 | .store t a v => (cOpd P 0 a).bind fun a => (szOf P t).bind fun n => (cOpd P t v).map fun v => .st n a v
 | .fieldAddr s x f => match P.underlying s with
   | some (.struct fs) => (fs[f]?).bind fun f => (szOf P f.type).bind fun n => if n = 0 then none else (cOpd P 0 x).map fun a => .fa f.offset n a
   | _ => none
 | .field s x f => match P.underlying s with
   | some (.struct fs) => (fs[f]?).bind fun f => (szOf P f.type).bind fun n => (aggOf P f.type).bind fun g => (cOpd P s x).map fun a => .fld g f.offset n a
   | _ => none
 | .indexAddr t x i => match P.underlying t with
   | some (.slice e) => (szOf P e).bind fun n => (cOpd P t x).bind fun a => (cOpd P 0 i).map fun b => .ia n a b
   | some (.array m e) => (szOf P e).bind fun n => (cOpd P 0 x).bind fun a => (cOpd P 0 i).map fun b => .iaA m n a b
   | _ => none
 | .makeSlice t l c => match P.underlying t with
   | some (.slice e) => (P.info? e).bind fun i => (zeroAV P e).bind fun z => if i.bytes ≤ 4096 ∧ z.cells.length = i.size then (cOpd P 0 l).bind fun a => (cOpd P 0 c).map fun b => .mks i.size z a b else none
   | _ => none
 | .index t x i => match P.underlying t with
   | some .string => (cOpd P t x).bind fun a => (cOpd P 0 i).map fun b => .idx a b
   | some (.array n e) => (szOf P e).bind fun s => (aggOf P e).bind fun g => (cOpd P t x).bind fun a => (cOpd P 0 i).map fun b => .idxA g n s a b
   | _ => none
 | .extract x i => (cOpd P 0 x).map fun a => .ext i a
 | .nilCheck x => (cOpd P 0 x).map .nilck
 | .build t parts => match P.underlying t with
   | some (.struct fs) => (zeroAV P t).bind fun z => (placesOf P fs.toList).bind fun pl => (cParts P fs pl parts.toList).map fun l => .build z.cells l
   | some (.array _ e) => (zeroAV P t).bind fun z => (szOf P e).bind fun n => (cElems P e parts.toList).map fun l => .build z.cells (l.map fun (i, x) => (i * n, n, x))
   | _ => none
 | .buildSlice t len parts => match P.underlying t with
   | some (.slice e) => (szOf P e).bind fun n => (zeroAV P e).bind fun z => if len * n ≤ 2 ^ 24 ∧ z.cells.length = n ∧ 0 < n then (cElems P e parts.toList).map fun l => .bsl n len z l else none
   | _ => none
 | .slice t x lo hi mx => match P.underlying t with
   | some (.slice e) => (szOf P e).bind fun n => (cOpd P t x).bind fun a => (cOptOpd P lo).bind fun lo => (cOptOpd P hi).bind fun hi => (cOptOpd P mx).bind fun mx => if mx.isSome && hi.isNone then none else some (.slc n a lo hi mx)
   | some .string => (cOpd P t x).bind fun a => (cOptOpd P lo).bind fun lo => (cOptOpd P hi).bind fun hi => match mx with | none => some (.sub a lo hi) | _ => none
   | _ => none
 | .makeFunc f first cap => (cOpds P [] first.toList).bind fun a => (cOpds P [] cap.toList).map fun b => .mkf f a b
 | .convert s d x => match P.underlying s, P.underlying d with
   | some (.int _), some (.int k) => (cOpd P s x).map fun a => .itoi k a
   | some (.int _), some .string => (cOpd P s x).map fun a => .itos a
   | _, _ => none
 | .call c => cCall P c o.type
 | .makeMap t none => some .mkmap
 | .lookup t m k ok => match P.underlying t with
   | some (.map kt et) => (keyTy P kt).bind fun g => (zeroAV P et).bind fun z => (cOpd P t m).bind fun a => (cOpd P kt k).map fun b => .look ok g z a b
   | _ => none
 | .mapUpdate t m k v => match P.underlying t with
   | some (.map kt et) => (keyTy P kt).bind fun g => (cOpd P t m).bind fun a => (cOpd P kt k).bind fun b => (cOpd P et v).map fun c => .upd g a b c
   | _ => none
 | .range t x => match P.underlying t with
   | some .string => (cOpd P t x).map .rng
   | _ => none
 | .next x true => (cOpd P 0 x).map .nxt
 | _ => none
def compOp (P : Program) (o : Oper) : Option AOp :=
 match compOp0 P o with
 | some a => some a
 | none => match o.op with
   | .defer _ | .select .. => none
   | _ => some .bad
theorem compOp_spec {P : Program} {o : Oper} {a : AOp} (h : compOp P o = some a) : compOp0 P o = some a ∨ (a = .bad ∧ (∀ c, o.op ≠ .defer c) ∧ ∀ c b, o.op ≠ .select c b) := by
 unfold compOp at h
 split at h
 ·rename_i hx; exact .inl (hx.trans h)
 ·split at h
  ·cases h
  ·cases h
  ·rename_i h1 h2
   cases h
   exact .inr ⟨rfl, fun c hc => h1 c hc, fun c b hc => h2 c b hc⟩
end Go.AL
namespace Go.AL
open Go.RowKit
set_option linter.unusedVariables false
set_option linter.unusedSectionVars false
def Runs (P : Program) (r : Result Next) (K : Value → World → Prop) : Prop :=
 match r with
 | .ok (.value v) w => K v w
 | .ok .skip w => K undef w
 | .ok (.enter f args) w => Calls P f args w fun e w' => ∃ v, e = .returned v ∧ K v w'
 | .ok (.round l f tmps asg body) w => RoundIn Fence.wide 0 P l f tmps asg body w fun e w' => ∃ v, e = .returned v ∧ K v w'
 | _ => False
theorem Runs.mono {P : Program} {r : Result Next} {K K' : Value → World → Prop} (h : Runs P r K) (hk : ∀ v w, K v w → K' v w) : Runs P r K' := by
 unfold Runs at *
 split at h
 ·exact hk _ _ h
 ·exact hk _ _ h
 ·intro cs
  obtain ⟨e, w', fr, ⟨v, he, hv⟩, rest⟩ := h cs
  exact ⟨e, w', fr, ⟨v, he, hk _ _ hv⟩, rest⟩
 ·exact h.mono fun e w' ⟨v, he, hv⟩ => ⟨v, he, hk _ _ hv⟩
 ·exact h.elim
def ACall (P : Program) (w₀ : World) (f : FuncId) (args : List AV) (σ : AH) (R : AV → AH → Prop) : Prop :=
 (∃ fn, P.funcs[f]? = some fn ∧ fn.body.isSome = true ∧ (fn.name == "runtime.NumGoroutine") = false) ∧
 ∀ (F : Gh) (vs : List Value) (w : World), RelL F args vs → Inv w₀ F σ w →
   Calls P f ⟨vs⟩ w fun e w' => ∃ cv, e = .returned cv ∧ ∃ F' v σ', F.le F' ∧ Rel F' v cv ∧ Inv w₀ F' σ' w' ∧ R v σ'
def AYield (P : Program) (w₀ : World) (l : Nat) (args : List AV) (σ : AH) (R : AV → AH → Prop) : Prop :=
 ∀ (F : Gh) (vs : List Value) (w : World), RelL F args vs → Inv w₀ F σ w →
   Runs P ((Instr.yield l ⟨vs⟩).run P w) fun cv w' => ∃ F' v σ', F.le F' ∧ Rel F' v cv ∧ Inv w₀ F' σ' w' ∧ R v σ'
def ACallV (P : Program) (w₀ : World) (fv : AV) (args : List AV) (σ : AH) (R : AV → AH → Prop) : Prop :=
 match fv with
 | .fn (.func g) first cap => ACall P w₀ g (first ++ args ++ cap) σ R
 | .fn (.yield l) [] _ => AYield P w₀ l args σ R
 | _ => False
def byteAt (s : ByteArray) (i : Nat) : Int := (s.data.toList[i]?.getD 0).toNat
def binA (op : BinOp) (x y : AV) (K : AV → Prop) : Prop :=
 match x, y with
 | .int k a, .int k' b =>
   match op with
   | .add => k = k' ∧ K (.int k (k.wrap (a + b)))
   | .sub => k = k' ∧ K (.int k (k.wrap (a - b)))
   | .mul => k = k' ∧ K (.int k (k.wrap (a * b)))
   | .quo => k = k' ∧ b ≠ 0 ∧ K (.int k (k.wrap (a.tdiv b)))
   | .rem => k = k' ∧ b ≠ 0 ∧ K (.int k (a.tmod b))
   | .eql => k = k' ∧ K (.bool (decide (a = b)))
   | .neq => k = k' ∧ K (.bool (!decide (a = b)))
   | .lss => k = k' ∧ K (.bool (decide (a < b)))
   | .leq => k = k' ∧ K (.bool (decide (a ≤ b)))
   | .gtr => k = k' ∧ K (.bool (decide (b < a)))
   | .geq => k = k' ∧ K (.bool (decide (b ≤ a)))
   | .and => k = k' ∧ K (.int k (Go.bits .and k a b))
   | .or => k = k' ∧ K (.int k (Go.bits .or k a b))
   | .shl => 0 ≤ b ∧ K (.int k (k.wrap (a * 2 ^ min b.toNat k.bits)))
   | .shr => 0 ≤ b ∧ K (.int k (a.fdiv (2 ^ min b.toNat k.bits)))
   | _ => False
 | .str a, .str b =>
   match op with
   | .add => a.size + b.size < 9223372036854775808 ∧ K (.str (a ++ b))
   | .eql => K (.bool (decide (a = b)))
   | .neq => K (.bool (!decide (a = b)))
   | .lss => K (.bool (Op.bytesLess a.toList b.toList))
   | .gtr => K (.bool !(Op.bytesLess a.toList b.toList || decide (a = b)))
   | .geq => K (.bool !(Op.bytesLess a.toList b.toList))
   | .leq => K (.bool (Op.bytesLess a.toList b.toList || decide (a = b)))
   | _ => False
 | _, _ => False
def Live (σ : AH) : Tok → Prop
 | .none => False
 | .clip => True
 | .own b e lim => σ b = some (.row e lim)
def Tok.isOn (b : Nat) : Tok → Bool
 | .own c _ _ => c == b
 | _ => false
structure Appended (σ : AH) (t : Tok) (σ' : AH) (t' : Tok) : Prop where
 kept : ∀ c o, σ c = some o → t.isOn c = false → σ' c = some o
 back : ∀ c o, σ' c = some o → t'.isOn c = false → σ c = some o
 live : Live σ' t'
 old : ∀ c, t'.isOn c = true → t.isOn c = true ∨ σ c = none
def unA (op : UnOp) (x : AV) (K : AV → Prop) : Prop :=
 match op, x with
 | .not, .bool b => K (.bool !b)
 | .neg, .int k n => K (.int k (k.wrap (0 - n)))
 | _, _ => False
def putParts : List AV → List (Nat × Nat × AV) → Option (List AV)
 | cs, [] => some cs
 | cs, (off, n, x) :: r => if x.cells.length = n ∧ off + n ≤ cs.length ∧ x.ok = true then putParts (setAt cs off x.cells) r else none
def putElems (sz : Nat) : List AV → List (Nat × AV) → Option (List AV)
 | cs, [] => some cs
 | cs, (i, x) :: r => if x.cells.length = sz ∧ i < cs.length ∧ x.ok = true then putElems sz (cs.set i x.bare) r else none
def bnd (d : Int) : Option AV → Option Int
 | none => some d
 | some (.int _ n) => some n
 | _ => none
def keyEq : AV → AV → Option Bool
 | .str a, .str b => some (decide (a = b))
 | .int k a, .int k' b => if k = k' then some (decide (a = b)) else none
 | _, _ => none
def keyOk (str : Bool) : AV → Bool
 | .str _ => str
 | .int _ _ => !str
 | _ => false
def findA (k : AV) : List (AV × AV) → Option (Option AV)
 | [] => some none
 | (k', v) :: es => match keyEq k k' with
   | some true => some (some v)
   | some false => findA k es
   | none => none
def setA (k v : AV) : List (AV × AV) → List (AV × AV)
 | [] => [(k, v)]
 | (k', v') :: es => if keyEq k k' = some true then (k', v) :: es else (k', v') :: setA k v es
def intsOf : List AV → Option (List (IntKind × Int))
 | [] => some []
 | .int k n :: r => (intsOf r).map fun l => (k, n) :: l
 | _ => none
def wpA (P : Program) (w₀ : World) (env : Env) (σ : AH) (op : AOp) (K : AV → AH → Prop) : Prop :=
 match op with
 | .mv x => K (ev env x) σ
 | .pick c a b => match ev env c with
   | .bool t => K (if t then ev env a else ev env b) σ
   | _ => False
 | .bin op x y => binA op (ev env x) (ev env y) fun v => K v σ
 | .beq neg x y => match ev env x, ev env y with
   | .bool a, .bool b => K (.bool (neg != (a == b))) σ
   | _, _ => False
 | .nilq neg x => match ev env x with
   | .lst _ xs _ => ∀ b : Bool, (xs ≠ [] → b = false) → K (.bool (neg != b)) σ
   | _ => False
 | .un op x => unA op (ev env x) fun v => K v σ
 | .slen x => match ev env x with
   | .str s => s.size < 9223372036854775808 → K (.int .i64 s.size) σ
   | _ => False
 | .len x => match ev env x with
   | .lst _ xs _ => xs.length < 9223372036854775808 → K (.int .i64 xs.length) σ
   | .slc _ _ _ n _ => K (.int .i64 n) σ
   | _ => False
 | .cap x => match ev env x with
   | .lst _ xs .clip => K (.int .i64 xs.length) σ
   | _ => False
 | .appz sz x n => match ev env x, ev env n with
   | .lst sz' [] .clip, .int _ n => sz' = sz ∧ 0 < n ∧ n ≤ 8589934592 ∧ ∀ b c, σ b = none → n.toNat ≤ c → c < 9223372036854775808 → K (.slc sz b 0 n.toNat c) (σ.put b (.row 0 (c * sz)))
   | _, _ => False
 | .idx x i => match ev env x, ev env i with
   | .str s, .int _ i => 0 ≤ i ∧ i < s.size ∧ K (.int .u8 (byteAt s i.toNat)) σ
   | _, _ => False
 | .idxA g n sz x i => match ev env x, ev env i with
   | .agg xs, .int _ i => 0 ≤ i ∧ i < n ∧ (i.toNat + 1) * sz ≤ xs.length ∧ if g then K (.agg ((xs.drop (i.toNat * sz)).take sz)) σ else sz = 1 ∧ K (xs.getD i.toNat .any) σ
   | _, _ => False
 | .ia sz x i => match ev env x, ev env i with
   | .lst sz' xs _, .int _ i => sz' = sz ∧ 0 ≤ i ∧ i < xs.length ∧ K (.elt (xs.getD i.toNat .any).cells) σ
   | .slc sz' b off n _, .int _ i => sz' = sz ∧ 0 ≤ i ∧ i < n ∧ K (.ptr b (off + i.toNat * sz)) σ
   | _, _ => False
 | .fa off n x => match ev env x with
   | .elt xs => off + n ≤ xs.length ∧ K (.elt ((xs.drop off).take n)) σ
   | .ptr b o => K (.ptr b (o + off)) σ
   | _ => False
 | .nilck x => match ev env x with
   | .elt xs => K (.elt xs) σ
   | .ptr b o => K (.ptr b o) σ
   | _ => False
 | .ld g n x => match ev env x with
   | .elt xs => if g then n ≤ xs.length ∧ K (.agg (xs.take n)) σ else 0 < xs.length ∧ K (xs.headD .any) σ
   | .ptr b o => match σ b with
     | some (.cells vs) => if g then o + n ≤ vs.length ∧ ((vs.drop o).take n).all AV.one = true ∧ K (.agg ((vs.drop o).take n)) σ else o < vs.length ∧ K (vs.getD o .any) σ
     | _ => False
   | _ => False
 | .st n x v => match ev env x with
   | .ptr b o => match σ b with
     | some (.cells vs) => (ev env v).cells.length = n ∧ (ev env v).ok = true ∧ o + n ≤ vs.length ∧ K (.tup []) (σ.put b (.cells (setAt vs o (ev env v).cells)))
     | _ => False
   | _ => False
 | .new zs => ∀ b, σ b = none → K (.ptr b 0) (σ.put b (.cells zs))
 | .box x => (ev env x).ok = true ∧ ∀ b, σ b = none → K (.ptr b 0) (σ.put b (.cells (ev env x).cells))
 | .fld g off n x => match ev env x with
   | .agg xs => off + n ≤ xs.length ∧ if g then K (.agg ((xs.drop off).take n)) σ else n = 1 ∧ K (xs.getD off .any) σ
   | _ => False
 | .ext i x => match ev env x with
   | .tup xs => i < xs.length ∧ K (xs.getD i .any) σ
   | _ => False
 | .build zs parts => match putParts zs (parts.map fun (o, n, x) => (o, n, ev env x)) with
   | some cs => zs.all AV.one = true ∧ K (.agg cs) σ
   | none => False
 | .bsl sz len z parts => match putElems sz (List.replicate len z.bare) (parts.map fun (i, x) => (i, ev env x)) with
   | some cs => z.cells.length = sz ∧ z.ok = true ∧ K (.lst sz cs .clip) σ
   | none => False
 | .app sz x y => match ev env x, ev env y with
   | .lst sz' xs t, .lst sz'' ys _ => sz' = sz ∧ sz'' = sz ∧ Live σ t ∧ xs.length + ys.length ≤ 8589934592 ∧
     ((∀ t' σ', Appended σ t σ' t' → K (.lst sz (xs ++ ys) t') σ') ∨
      (xs = [] ∧ t = .clip ∧ ys ≠ [] ∧ ∀ b c, σ b = none → ys.length ≤ c → c < 9223372036854775808 → K (.slc sz b 0 ys.length c) (σ.put b (.cells (ys.flatMap AV.cells ++ List.replicate ((c - ys.length) * sz) .any)))))
   | _, _ => False
 | .appf sz x i y v => match ev env x, ev env i, ev env y with
   | .lst sz' xs t, .int _ k, .lst sz'' [z] _ => sz' = sz ∧ sz'' = sz ∧ k = xs.length ∧ Live σ t ∧ xs.length + 1 ≤ 8589934592 ∧ (ev env v).cells.length = sz ∧ (ev env v).ok = true ∧
     ∀ t' σ', Appended σ t σ' t' → K (.lst sz (xs ++ [(ev env v).bare]) t') σ'
   | _, _, _ => False
 | .slc sz x lo hi mx => match ev env x with
   | .lst sz' xs t => match bnd 0 (lo.map (ev env)), bnd xs.length (hi.map (ev env)), mx.map (ev env) with
     | some l, some h, none => sz' = sz ∧ 0 ≤ l ∧ l ≤ h ∧ h ≤ xs.length ∧
       if h = xs.length then (if l = 0 then K (.lst sz ((xs.take h.toNat).drop l.toNat) t) σ else ∀ t', t' = t ∨ t' = .clip → K (.lst sz ((xs.take h.toNat).drop l.toNat) t') σ)
       else K (.lst sz ((xs.take h.toNat).drop l.toNat) .none) σ
     | some l, some h, some (.int _ m) => sz' = sz ∧ 0 ≤ l ∧ l ≤ h ∧ h = m ∧ h ≤ xs.length ∧ K (.lst sz ((xs.take h.toNat).drop l.toNat) .clip) σ
     | _, _, _ => False
   | .slc sz' b off n c => match bnd 0 (lo.map (ev env)), bnd n (hi.map (ev env)), mx.map (ev env) with
     | some l, some h, none => sz' = sz ∧ 0 ≤ l ∧ l ≤ h ∧ h ≤ n ∧ n ≤ c ∧ l < c ∧ (K (.slc sz b (off + l.toNat * sz) (h.toNat - l.toNat) (c - l.toNat)) σ ∨
       (l = 0 ∧ h = 0 ∧ off = 0 ∧ c < 9223372036854775808 ∧ K (.lst sz [] (.own b 0 (c * sz))) σ))
     | _, _, _ => False
   | _ => False
 | .sub x lo hi => match ev env x with
   | .str s => match bnd 0 (lo.map (ev env)), bnd s.size (hi.map (ev env)) with
     | some l, some h => 0 ≤ l ∧ l ≤ h ∧ h ≤ s.size ∧ K (.str (s.extract l.toNat h.toNat)) σ
     | _, _ => False
   | _ => False
 | .mkf f first cap => K (.fn f (first.map (ev env)) (cap.map (ev env))) σ
 | .call f args => ACallV P w₀ (ev env f) (args.map (ev env)) σ K
 | .minmax g xs => match xs.map (ev env) with
   | [.int k a, .int k' b] => k = k' ∧ K (.int k (if g then max a b else min a b)) σ
   | _ => False
 | .itoi k x => match ev env x with
   | .int _ n => K (.int k (k.wrap n)) σ
   | _ => False
 | .itos x => match ev env x with
   | .int _ n => K (.str (Utf8.encode n)) σ
   | _ => False
 | .mkmap => ∀ b, σ b = none → K (.map (some b)) (σ.put b (.map []))
 | .look ok g z m k => keyOk g (ev env k) = true ∧ match ev env m with
   | .map none => K (if ok then .tup [z, .bool false] else z) σ
   | .map (some r) => match σ r with
     | some (.map es) => match findA (ev env k) es with
       | some (some v) => K (if ok then .tup [v, .bool true] else v) σ
       | some none => K (if ok then .tup [z, .bool false] else z) σ
       | none => False
     | _ => False
   | _ => False
 | .upd g m k v => keyOk g (ev env k) = true ∧ match ev env m with
   | .map (some r) => match σ r with
     | some (.map es) => (findA (ev env k) es).isSome = true ∧ K (.tup []) (σ.put r (.map (setA (ev env k) (ev env v).bare es)))
     | _ => False
   | _ => False
 | .mlen x => match ev env x with
   | .map none => K (.int .i64 0) σ
   | .map (some r) => match σ r with
     | some (.map es) => K (.int .i64 es.length) σ
     | _ => False
   | _ => False
 | .rng x => match ev env x with
   | .str s => ∀ b, σ b = none → K (.ptr b 0) (σ.put b (.sit s 0))
   | _ => False
 | .mks sz z n c => match ev env n, ev env c with
   | .int _ n, .int _ c => 0 ≤ n ∧ n ≤ c ∧ c ≤ 8589934592 ∧ ∀ b, σ b = none → K (.slc sz b 0 n.toNat c.toNat) (σ.put b (.cells (List.replicate c.toNat z.cells).flatten))
   | _, _ => False
 | .iaA n sz x i => match ev env x, ev env i with
   | .elt xs, .int _ i => 0 ≤ i ∧ i < n ∧ n * sz ≤ xs.length ∧ K (.elt ((xs.drop (i.toNat * sz)).take sz)) σ
   | .ptr b o, .int _ i => 0 ≤ i ∧ i < n ∧ K (.ptr b (o + i.toNat * sz)) σ
   | _, _ => False
 | .aeq neg n x y => match ev env x, ev env y with
   | .agg xs, .agg ys => match intsOf xs, intsOf ys with
     | some is, some js => xs.length = n ∧ ys.length = n ∧ is.map (·.1) = js.map (·.1) ∧ K (.bool (neg != decide (is = js))) σ
     | _, _ => False
   | _, _ => False
 | .nxt x => match ev env x with
   | .ptr b 0 => match σ b with
     | some (.sit s pos) => if pos < s.size then K (.tup [.bool true, .int .i64 pos, .int .i32 (Utf8.decode s pos).1]) (σ.put b (.sit s (pos + (Utf8.decode s pos).2))) else K (.tup [.bool false]) σ
     | _ => False
   | _ => False
 | _ => False
end Go.AL
namespace Go.AL
open Go.RowKit
set_option linter.unusedVariables false
set_option linter.unusedSectionVars false
set_option linter.unusedSimpArgs false
def Post (w₀ : World) (F : Gh) (K : AV → AH → Prop) (cv : Value) (w' : World) : Prop :=
 ∃ F' v σ', F.le F' ∧ Rel F' v cv ∧ Inv w₀ F' σ' w' ∧ K v σ'
section
variable {P : Program} {w₀ : World} {F : Gh} {σ : AH} {w : World} {K : AV → AH → Prop}
theorem Post.same {v : AV} {cv : Value} (hI : Inv w₀ F σ w) (hr : Rel F v cv) (hK : K v σ) : Post w₀ F K cv w := ⟨F, v, σ, F.le_refl, hr, hI, hK⟩
def OpS (P : Program) (w₀ : World) (o : Oper) (ao : AOp) : Prop :=
 ∀ (env : Env) (σ : AH) (K : AV → AH → Prop) (F : Gh) (a : Act) (w : World),
   OpdR P F env a.eval o.op.operands.toList → Inv w₀ F σ w → wpA P w₀ env σ ao K → Runs P ((execOp a.eval o).run P w) (Post w₀ F K)
theorem Rel.int_inv {k : IntKind} {n : Int} {v : Value} (h : Rel F (.int k n) v) : v = .int k n := by cases h; rfl
theorem Rel.bool_inv {b : Bool} {v : Value} (h : Rel F (.bool b) v) : v = .bool b := by cases h; rfl
theorem Rel.str_sz {s : ByteArray} {v : Value} (h : Rel F (.str s) v) : s.size < 9223372036854775808 := by cases h; assumption
theorem Rel.str_inv {s : ByteArray} {v : Value} (h : Rel F (.str s) v) : v = .string s := by cases h; rfl
theorem Rel.ptr_inv {b o : Nat} {v : Value} (h : Rel F (.ptr b o) v) : v = .pointer (some ⟨b, o, none⟩) := by cases h; rfl
theorem Rel.slc_inv {sz b off n c : Nat} {v : Value} (h : Rel F (.slc sz b off n c) v) : v = .slice (some ⟨b, off, none⟩) n c := by cases h; rfl
theorem Rel.fn_inv {f : Fn} {xs ys : List AV} {v : Value} (h : Rel F (.fn f xs ys) v) : ∃ us vs : List Value, v = .func f ⟨us⟩ ⟨vs⟩ ∧ RelL F xs us ∧ RelL F ys vs := by cases h with | fn _ h k => exact ⟨_, _, rfl, h, k⟩
theorem Rel.elt_inv {xs : List AV} {v : Value} (h : Rel F (.elt xs) v) : ∃ us b off, v = .pointer (some ⟨b, off, none⟩) ∧ xs.all AV.one = true ∧ RelL F xs us ∧ ∀ (i : Nat) (u : Value), us[i]? = some u → F b (off + i) = some u := by
 cases h with | elt ho h hi => exact ⟨_, _, _, rfl, ho, h, hi⟩
theorem Rel.agg_inv {xs : List AV} {v : Value} (h : Rel F (.agg xs) v) : ∃ vs : List Value, v = .agg ⟨vs⟩ ∧ xs.all AV.one = true ∧ RelL F xs vs := by
 cases h with | agg ho h => exact ⟨_, rfl, ho, h⟩
theorem Rel.tup_inv {xs : List AV} {v : Value} (h : Rel F (.tup xs) v) : ∃ vs : List Value, v = .tuple ⟨vs⟩ ∧ RelL F xs vs := by
 cases h with | tup h => exact ⟨_, rfl, h⟩
theorem Rel.lst_inv {sz : Nat} {xs : List AV} {t : Tok} {v : Value} (h : Rel F (.lst sz xs t) v) :
  (∃ p c, v = .slice p 0 c ∧ xs = [] ∧ (t = .none ∨ (t = .clip ∧ c = 0)) ∧ c < 9223372036854775808) ∨ ∃ us b off c, v = .slice (some ⟨b, off, none⟩) xs.length c ∧ (xs.flatMap AV.cells).all AV.one = true ∧ RelL F (xs.flatMap AV.cells) us ∧
   (∀ (i : Nat) (u : Value), us[i]? = some u → F b (off + i) = some u) ∧ (∀ x ∈ xs, x.cells.length = sz) ∧ xs.length ≤ c ∧ c < 9223372036854775808 ∧ TokAt b off xs.length c sz t := by
 cases h with
 | lnil _ _ _ _ h hm => exact .inl ⟨_, _, rfl, rfl, h, hm⟩
 | lst ho h hi hs hc hm ht hl => subst hl; exact .inr ⟨_, _, _, _, rfl, ho, h, hi, hs, hc, hm, ht⟩
theorem szOf_size {t : TypeId} {n : Nat} (h : szOf P t = some n) : ∃ i, P.info? t = some i ∧ i.size = n := by
 simp only [szOf, Option.map_eq_some_iff] at h; exact h
theorem run_sizeOf' {t : TypeId} {n : Nat} (h : szOf P t = some n) (w : World) : (sizeOf t).run P w = .ok n w := by
 obtain ⟨i, hi, rfl⟩ := szOf_size h
 simp [sizeOf, typeInfo, hi]
theorem run_isAgg' {t : TypeId} {g : Bool} (h : aggOf P t = some g) (w : World) : (isAgg t).run P w = .ok g w := by
 simp only [aggOf, Option.map_eq_some_iff] at h
 obtain ⟨d, hd, rfl⟩ := h
 simp only [isAgg, Sem.run_bind, run_underlying hd, Result.andThen_ok]
 cases d <;> rfl
theorem opS_move {o : Oper} {ao : AOp} {x : Operand} (ho : o.op = .move x ∨ o.op = .assign x) (h : (cOpd P o.type x).map AOp.mv = some ao) : OpS P w₀ o ao := by
 intro env σ K F act w hρ hI hK
 simp only [Option.map_eq_some_iff] at h
 obtain ⟨a, ha, rfl⟩ := h
 have hr : Rel F (ev env a) (act.eval x) := by
  rcases ho with ho | ho <;> exact hρ x (by rw [ho]; simp [Op.operands]) _ _ ha
 rcases ho with ho | ho <;> simp only [execOp, ho] <;> exact Post.same hI hr hK
theorem opS_pick {o : Oper} {ao : AOp} {c a b : Operand} (ho : o.op = .pick c a b)
  (h : ((cOpd P o.type c).bind fun c => (cOpd P o.type a).bind fun a => (cOpd P o.type b).map fun b => AOp.pick c a b) = some ao) : OpS P w₀ o ao := by
 intro env σ K F act w hρ hI hK
 simp only [Option.bind_eq_some_iff, Option.map_eq_some_iff] at h
 obtain ⟨xc, hc, xa, ha, xb, hb, rfl⟩ := h
 have rc := hρ c (by rw [ho]; simp [Op.operands]) _ _ hc
 have ra := hρ a (by rw [ho]; simp [Op.operands]) _ _ ha
 have rb := hρ b (by rw [ho]; simp [Op.operands]) _ _ hb
 simp only [wpA] at hK
 split at hK
 ·rename_i t ht
  rw [ht] at rc
  simp only [execOp, ho, rc.bool_inv]
  cases t
  ·exact Post.same hI rb hK
  ·exact Post.same hI ra hK
 ·exact hK.elim
theorem pureRun' {cv : Value} {v : AV} {s : Sem Value} (hrun : s.run P w = .ok cv w) (hI : Inv w₀ F σ w) (hr : Rel F v cv) (hK : K v σ) :
  Runs P ((do pure (Next.value (← s)) : Sem Next).run P w) (Post w₀ F K) := by
 simp only [Sem.run_bind, hrun, Result.andThen_ok, Sem.run_pure]; exact Post.same hI hr hK
theorem toList_inj' {a b : ByteArray} : (a.toList == b.toList) = decide (a = b) := by
 rw [Bool.eq_iff_iff]
 simp only [beq_iff_eq, decide_eq_true_eq]
 constructor
 ·intro h
  have h1 : a.data.toList = b.data.toList := by simpa [ByteArray.toList_eq] using h
  cases a; cases b
  simp only at h1
  congr 1
  exact Array.ext' h1
 ·rintro rfl; rfl
theorem opS_bin {o : Oper} {op : BinOp} {x y : Operand} {t yt : TypeId} {d : TypeDesc} {a b : AX} (ho : o.op = .binOp op t x y yt) (hd : P.underlying t = some d)
  (ha : cOpd P t x = some a) (hb : cOpd P yt y = some b) : OpS P w₀ o (.bin op a b) := by
 intro env σ K F act w hρ hI hK
 have ra := hρ x (by rw [ho]; simp [Op.operands]) _ _ ha
 have rb := hρ y (by rw [ho]; simp [Op.operands]) _ _ hb
 simp only [wpA, binA] at hK
 split at hK
 ·rename_i k n k' m h1 h2
  rw [h1] at ra; rw [h2] at rb
  have e1 := ra.int_inv; have e2 := rb.int_inv
  simp only [execOp, ho, e1, e2, eqGuard]
  split at hK
  case h_16 => exact hK.elim
  case h_14 =>
   obtain ⟨h0, hK⟩ := hK
   refine pureRun' ?_ hI (.int _ _) hK
   simp [binOp, Op.shift, Int.not_lt.2 h0]
  case h_15 =>
   obtain ⟨h0, hK⟩ := hK
   refine pureRun' ?_ hI (.int _ _) hK
   simp [binOp, Op.shift, Int.not_lt.2 h0]
  case h_4 =>
   obtain ⟨rfl, h0, hK⟩ := hK
   exact pureRun' (by simp [binOp, Op.intDiv, h0]) hI (.int _ _) hK
  case h_5 =>
   obtain ⟨rfl, h0, hK⟩ := hK
   exact pureRun' (by simp [binOp, Op.intDiv, h0]) hI (.int _ _) hK
  all_goals
   obtain ⟨rfl, hK⟩ := hK
   first
   | exact pureRun' (by simp [binOp, Op.intArith, Op.intBits, Go.bits, Op.intCmp]) hI (.int _ _) hK
   | exact pureRun' (by simp [binOp, Op.intArith, Op.intBits, Go.bits, Op.intCmp, bne] <;> rfl) hI (.bool _) hK
 ·rename_i s s' h1 h2
  rw [h1] at ra; rw [h2] at rb
  have e1 := ra.str_inv; have e2 := rb.str_inv
  simp only [execOp, ho, e1, e2, eqGuard]
  split at hK
  case h_1 =>
   obtain ⟨h0, hK⟩ := hK
   refine pureRun' ?_ hI (.str _ (by rw [ByteArray.size_append]; exact h0)) hK
   have : ¬ (((s.size + s'.size : Nat) : Int) > IntKind.i64.max) := by
    rw [show IntKind.i64.max = 9223372036854775807 from rfl]; omega
   simp only [binOp, Op.stringOp, this, if_false]; rfl
  case h_8 => exact hK.elim
  all_goals exact pureRun' (by simp only [binOp, Op.stringOp, toList_inj']; rfl) hI (.bool _) hK
 ·exact hK.elim
theorem opS_beq {o : Oper} {op : BinOp} {x y : Operand} {t yt : TypeId} {a b : AX} {neg : Bool} (ho : o.op = .binOp op t x y yt) (hd : P.underlying t = some .bool)
  (hop : op = (if neg then .neq else .eql)) (ha : cOpd P t x = some a) (hb : cOpd P yt y = some b) : OpS P w₀ o (.beq neg a b) := by
 intro env σ K F act w hρ hI hK
 have ra := hρ x (by rw [ho]; simp [Op.operands]) _ _ ha
 have rb := hρ y (by rw [ho]; simp [Op.operands]) _ _ hb
 simp only [wpA] at hK
 split at hK
 ·rename_i u v h1 h2
  rw [h1] at ra; rw [h2] at rb
  have e1 := ra.bool_inv; have e2 := rb.bool_inv
  subst hop
  simp only [execOp, ho, e1, e2, eqGuard]
  cases neg
  ·exact pureRun' (show (do pure (Value.bool (← Op.equal t (.bool u) (.bool v))) : Sem Value).run P w = _ by simp [run_equal_bool _ _ _ _ hd]) hI (.bool _) hK
  ·exact pureRun' (show (do pure (Value.bool (!(← Op.equal t (.bool u) (.bool v)))) : Sem Value).run P w = _ by simp [run_equal_bool _ _ _ _ hd]) hI (.bool _) hK
 ·exact hK.elim
theorem opS_nilq {o : Oper} {op : BinOp} {x : Operand} {t yt e : TypeId} {a : AX} {neg : Bool} (ho : o.op = .binOp op t x (.const (.slice none 0 0)) yt) (hd : P.underlying t = some (.slice e))
  (hop : op = (if neg then .neq else .eql)) (ha : cOpd P t x = some a) : OpS P w₀ o (.nilq neg a) := by
 intro env σ K F act w hρ hI hK
 have ra := hρ x (by rw [ho]; simp [Op.operands]) _ _ ha
 simp only [wpA] at hK
 split at hK
 ·rename_i sz xs tk h1
  rw [h1] at ra
  obtain ⟨p, n, c, hv, hp⟩ : ∃ p n c, act.eval x = .slice p n c ∧ (xs ≠ [] → p.isNone = false) := by
   rcases ra.lst_inv with ⟨p, c, h, h2, _⟩ | ⟨us, b, off, c, h, _⟩
   ·exact ⟨_, _, _, h, fun h3 => absurd h2 h3⟩
   ·exact ⟨_, _, _, h, fun _ => rfl⟩
  subst hop
  simp only [execOp, ho, hv, eqGuard]
  have hK := hK p.isNone hp
  cases neg
  ·exact pureRun' (show (do pure (Value.bool (← Op.equal t (.slice p n c) (.slice none 0 0))) : Sem Value).run P w = _ by simp [run_equal_slice_nil _ _ _ _ _ _ hd]) hI (.bool _) hK
  ·exact pureRun' (show (do pure (Value.bool (!(← Op.equal t (.slice p n c) (.slice none 0 0)))) : Sem Value).run P w = _ by simp [run_equal_slice_nil _ _ _ _ _ _ hd]) hI (.bool _) hK
 ·exact hK.elim
theorem opS_un {o : Oper} {op : UnOp} {x : Operand} {t : TypeId} {a : AX} (ho : o.op = .unOp op t x) (ha : cOpd P t x = some a) : OpS P w₀ o (.un op a) := by
 intro env σ K F act w hρ hI hK
 have ra := hρ x (by rw [ho]; simp [Op.operands]) _ _ ha
 simp only [wpA, unA] at hK
 split at hK
 ·rename_i b h1
  rw [h1] at ra
  simp only [execOp, ho, ra.bool_inv]
  exact pureRun' rfl hI (.bool _) hK
 ·rename_i k n h1
  rw [h1] at ra
  simp only [execOp, ho, ra.int_inv]
  exact pureRun' rfl hI (.int _ _) hK
 ·exact hK.elim
theorem opS_ext {o : Oper} {x : Operand} {i : Nat} {a : AX} (ho : o.op = .extract x i) (ha : cOpd P 0 x = some a) : OpS P w₀ o (.ext i a) := by
 intro env σ K F act w hρ hI hK
 have ra := hρ x (by rw [ho]; simp [Op.operands]) _ _ ha
 simp only [wpA] at hK
 split at hK
 ·rename_i xs h1
  rw [h1] at ra
  obtain ⟨vs, hv, hr⟩ := ra.tup_inv
  obtain ⟨hlt, hK⟩ := hK
  obtain ⟨v, hv', hrel⟩ := hr.get (i := i) (x := xs[i]) (by simp [hlt])
  simp only [execOp, ho, hv]
  refine pureRun' (cv := v) ?_ hI hrel (by simpa [List.getD_eq_getElem?_getD, hlt] using hK)
  simp [Instr.extract, hv']
 ·exact hK.elim
theorem opS_nilck {o : Oper} {x : Operand} {a : AX} (ho : o.op = .nilCheck x) (ha : cOpd P 0 x = some a) : OpS P w₀ o (.nilck a) := by
 intro env σ K F act w hρ hI hK
 have ra := hρ x (by rw [ho]; simp [Op.operands]) _ _ ha
 simp only [wpA] at hK
 split at hK
 ·rename_i xs h1
  rw [h1] at ra
  obtain ⟨us, b, off, hv, _⟩ := ra.elt_inv
  have ra' := ra
  rw [hv] at ra'
  simp only [execOp, ho, hv]
  exact Post.same hI ra' hK
 ·rename_i b off h1
  rw [h1] at ra
  have ra' := ra
  rw [ra.ptr_inv] at ra'
  simp only [execOp, ho, ra.ptr_inv]
  exact Post.same hI ra' hK
 ·exact hK.elim
theorem Addr.add_mk (b o n : Nat) : (⟨b, o, none⟩ : Addr).add n = ⟨b, o + n, none⟩ := by
 unfold Addr.add; split <;> simp_all
theorem RelL.dropTake {xs : List AV} {us : List Value} (off n : Nat) (h : RelL F xs us) : RelL F ((xs.drop off).take n) ((us.drop off).take n) := (h.drop off).take n
theorem all_drop_take {xs : List AV} (h : xs.all AV.one = true) (off n : Nat) : ((xs.drop off).take n).all AV.one = true := by
 rw [List.all_eq_true] at *
 exact fun x hx => h x (List.mem_of_mem_drop (List.mem_of_mem_take hx))
theorem opS_fa {o : Oper} {x : Operand} {s : TypeId} {f : Nat} {fs : Array Field} {fd : Field} {n : Nat} {a : AX} (ho : o.op = .fieldAddr s x f) (hs : P.underlying s = some (.struct fs))
  (hf : fs[f]? = some fd) (hn : szOf P fd.type = some n) (h0 : n ≠ 0) (ha : cOpd P 0 x = some a) : OpS P w₀ o (.fa fd.offset n a) := by
 intro env σ K F act w hρ hI hK
 have ra := hρ x (by rw [ho]; simp [Op.operands]) _ _ ha
 have hrun : ∀ b off, act.eval x = .pointer (some ⟨b, off, none⟩) → (Instr.fieldAt s (act.eval x) f).run P w = .ok (.pointer (some ⟨b, off + fd.offset, none⟩)) w := by
  intro b off hv
  simp [Instr.fieldAt, run_underlying hs, hf, hv, Instr.sureAddr, fieldPlace, run_sizeOf' hn, h0, Addr.add_mk]
 simp only [wpA] at hK
 split at hK
 ·rename_i xs h1
  rw [h1] at ra
  obtain ⟨us, b, off, hv, ho1, hr, hi⟩ := ra.elt_inv
  simp only [execOp, ho]
  refine pureRun' (hrun b off hv) hI (Rel.elt (us := (us.drop fd.offset).take n) (all_drop_take ho1 _ _) (hr.dropTake _ _) fun i u hu => ?_) hK.2
  rw [List.getElem?_take] at hu
  split at hu
  ·rw [List.getElem?_drop] at hu
   rw [Nat.add_assoc]; exact hi _ _ hu
  ·cases hu
 ·rename_i b off h1
  rw [h1] at ra
  simp only [execOp, ho]
  exact pureRun' (hrun b off ra.ptr_inv) hI (.ptr _ _) hK
 ·exact hK.elim
theorem run_loadVar {t : TypeId} {n : Nat} {g : Bool} (hn : szOf P t = some n) (hg : aggOf P t = some g) {b off : Nat} {us : List Value} (hl : us.length = n)
  (hc : ∀ (i : Nat) (u : Value), us[i]? = some u → w.cell? ⟨b, off + i, none⟩ = some u) (hgn : g = true ∨ n = 1) :
  (loadVar t ⟨b, off, none⟩).run P w = .ok (if g then .agg ⟨us⟩ else us.headD undef) w := by
 simp only [loadVar, Sem.run_bind, run_isAgg' hg, Result.andThen_ok]
 cases g with
 | true =>
   have := run_loadCells_list (P := P) w ⟨b, off, none⟩ us (fun j v hj => by rw [Addr.add_mk]; exact hc j v hj)
   rw [hl] at this
   simp [run_sizeOf' hn, this]
 | false =>
   have h1 : n = 1 := hgn.resolve_left (by simp)
   subst h1
   match us, hl with
   | [u], _ =>
     have := hc 0 u rfl
     simp [load, Sem.run, show (⟨b, off, none⟩ : Addr) = ⟨b, off + 0, none⟩ by simp, this]
end
end Go.AL
namespace Go.AL
open Go.RowKit
set_option linter.unusedVariables false
set_option linter.unusedSectionVars false
set_option linter.unusedSimpArgs false
section
variable {P : Program} {w₀ : World} {F : Gh} {σ : AH} {w : World} {K : AV → AH → Prop}
theorem RelL.headD {xs : List AV} {us : List Value} (h : RelL F xs us) (h0 : 0 < xs.length) : Rel F (xs.headD .any) (us.headD undef) := by
 cases h with
 | nil => simp at h0
 | cons h _ => exact h
theorem opS_ld {o : Oper} {x : Operand} {t : TypeId} {n : Nat} {g : Bool} {a : AX} (ho : o.op = .load t x) (hn : szOf P t = some n) (hg : aggOf P t = some g)
  (hgn : (g || n == 1) = true) (ha : cOpd P 0 x = some a) : OpS P w₀ o (.ld g n a) := by
 intro env σ K F act w hρ hI hK
 have ra := hρ x (by rw [ho]; simp [Op.operands]) _ _ ha
 have hgn' : g = true ∨ n = 1 := by simpa using hgn
 simp only [wpA] at hK
 split at hK
 ·rename_i xs h1
  rw [h1] at ra
  obtain ⟨us, b, off, hv, ho1, hr, hi⟩ := ra.elt_inv
  have hle : n ≤ xs.length := by
   cases g with
   | true => exact hK.1
   | false => have := hgn'.resolve_left (by simp); have h2 := hK.1; simp only [Bool.false_eq_true, if_false] at hK; omega
  have hlen : (us.take n).length = n := by rw [List.length_take, ← hr.length]; omega
  have hrun := run_loadVar (P := P) (w := w) hn hg hlen (fun i u hu => by
   rw [List.getElem?_take] at hu
   split at hu
   ·exact hI.imm _ _ _ (hi i u hu)
   ·cases hu) hgn'
  simp only [execOp, ho, hv]
  cases g with
  | true =>
    exact pureRun' (by simp [Instr.loadAt, Instr.sureAddr, hrun]) hI (.agg (by
     have := all_drop_take ho1 0 n; simpa using this) (hr.take n)) hK.2
  | false =>
    have h1 : n = 1 := hgn'.resolve_left (by simp)
    subst h1
    simp only [Bool.false_eq_true, if_false] at hK
    refine pureRun' (by simp only [Instr.loadAt, Instr.sureAddr, Sem.run_bind, Sem.run_pure, Result.andThen_ok]; exact hrun) hI ?_ hK.2
    have h3 := (hr.take 1).headD (by rw [List.length_take]; omega)
    rw [show (xs.take 1).headD AV.any = xs.headD AV.any by cases xs <;> rfl] at h3
    exact h3
 ·rename_i b off h1
  rw [h1] at ra
  split at hK
  ·rename_i vs hσ
   obtain ⟨cs, T, hh, hr⟩ := hI.obj _ _ hσ
   have hle : off + n ≤ vs.length := by
    cases g with
    | true => exact hK.1
    | false => have := hgn'.resolve_left (by simp); have h2 := hK.1; simp only [Bool.false_eq_true, if_false] at hK; omega
   have hlen : ((cs.drop off).take n).length = n := by rw [List.length_take, List.length_drop, ← hr.length]; omega
   have hrun := run_loadVar (P := P) (w := w) hn hg hlen (b := b) (off := off) (fun i u hu => by
    rw [List.getElem?_take] at hu
    split at hu
    ·rw [List.getElem?_drop] at hu; simp [World.cell?, hh, hu]
    ·cases hu) hgn'
   simp only [execOp, ho, ra.ptr_inv]
   cases g with
   | true =>
     exact pureRun' (by simp [Instr.loadAt, Instr.sureAddr, hrun]) hI (.agg hK.2.1 (hr.dropTake off n)) hK.2.2
   | false =>
     have h1 : n = 1 := hgn'.resolve_left (by simp)
     subst h1
     simp only [Bool.false_eq_true, if_false] at hK
     refine pureRun' (by simp only [Instr.loadAt, Instr.sureAddr, Sem.run_bind, Sem.run_pure, Result.andThen_ok]; exact hrun) hI ?_ hK.2
     have hlt : off < vs.length := by omega
     have h3 := (hr.dropTake off 1).headD (by rw [List.length_take, List.length_drop]; omega)
     rw [show ((vs.drop off).take 1).headD AV.any = vs.getD off AV.any by
      rw [List.headD_eq_head?_getD, List.head?_take, List.head?_drop, List.getD_eq_getElem?_getD]; simp] at h3
     exact h3
  ·exact hK.elim
 ·exact hK.elim
theorem Rel.cellsOk {x : AV} {v : Value} (h : Rel F x v) (hk : x.ok = true) : RelL F x.cells v.cells.toList := h.cells (by rintro rfl; simp [AV.ok, AV.cells, AV.one] at hk)
theorem opS_st {o : Oper} {x v : Operand} {t : TypeId} {n : Nat} {a c : AX} (ho : o.op = .store t x v) (hn : szOf P t = some n)
  (ha : cOpd P 0 x = some a) (hc : cOpd P t v = some c) : OpS P w₀ o (.st n a c) := by
 intro env σ K F act w hρ hI hK
 have ra := hρ x (by rw [ho]; simp [Op.operands]) _ _ ha
 have rc := hρ v (by rw [ho]; simp [Op.operands]) _ _ hc
 simp only [wpA] at hK
 split at hK
 ·rename_i b off h1
  rw [h1] at ra
  split at hK
  ·rename_i vs hσ
   obtain ⟨hlen, hok, hle, hK⟩ := hK
   have hcs := rc.cellsOk hok
   have hl2 : (act.eval v).cells.toList.length = n := by rw [← hcs.length]; exact hlen
   obtain ⟨cs, T, hh, hr⟩ := hI.obj _ _ hσ
   have hst := run_storeCells_cells (P := P) b off (act.eval v).cells.toList 0 w (fun j hj => by
     have : off + j < cs.length := by rw [← hr.length]; omega
     simp [World.cell?, hh, this]) (fun j hj => hI.notFrozen hσ) (hcs.one hok)
   simp only [Nat.add_zero] at hst
   have hrun : (Instr.storeAt t (act.eval x) (act.eval v)).run P w = .ok () (w.setCells b off (act.eval v).cells.toList) := by
    rw [ra.ptr_inv]
    simp only [Instr.storeAt, Instr.sureAddr, Sem.run_bind, Sem.run_pure, Result.andThen_ok, storeVar, run_sizeOf' hn]
    have : ¬ (act.eval v).cells.size ≠ n := by simpa using hl2
    simp only [this, if_false, Sem.run_pure, Result.andThen_ok]
    exact hst
   simp only [execOp, ho, Sem.run_bind, hrun, Result.andThen_ok, Sem.run_pure]
   exact ⟨F, _, _, F.le_refl, .tup .nil, hI.store hσ hcs, hK⟩
  ·exact hK.elim
 ·exact hK.elim
theorem run_newVar (t : TypeId) (v : Value) (w : World) : (newVar t v).run P w = .ok ⟨w.heap.size, 0, none⟩ (w.alloc (.cells v.cells t)) := by
 simp [newVar, newRow, newObj, Sem.run]
theorem zeroAV_run {t : TypeId} {x : AV} (h : zeroAV P t = some x) : ∃ z, (∀ w, (zeroValue t).run P w = .ok z w) ∧ (∀ F, Rel F x z) ∧ x.ok = true ∧ ∃ i, P.info? t = some i ∧ i.zero = some z := by
 simp only [zeroAV, Option.bind_eq_some_iff] at h
 obtain ⟨i, hi, z, hz, hx⟩ := h
 exact ⟨z, fun w => by simp [zeroValue, typeInfo, hi, hz], fun F => (constAV_rel hx F).1, (constAV_rel hx (fun _ _ => none)).2, i, hi, hz⟩
theorem newCells (hI : Inv w₀ F σ w) {t : TypeId} {xs : List AV} {c : Array Value} (hr : RelL F xs c.toList) (hK : ∀ b, σ b = none → K (.ptr b 0) (σ.put b (.cells xs))) :
  Post w₀ F K (.pointer (some ⟨w.heap.size, 0, none⟩)) (w.alloc (.cells c t)) := by
 refine ⟨F, _, _, F.le_refl, .ptr _ _, hI.allocObj _ (.cells xs) ?_, hK _ hI.fresh⟩
 exact ⟨c.toList, t, heap_alloc_new _ _, hr⟩
theorem opS_new {o : Oper} {t : TypeId} {z : AV} (ho : o.op = .alloc t) (hz : zeroAV P t = some z) : OpS P w₀ o (.new z.cells) := by
 intro env σ K F act w hρ hI hK
 obtain ⟨zv, hrun, hrel, hok, _⟩ := zeroAV_run hz
 simp only [wpA] at hK
 simp only [execOp, ho, Instr.alloc, Sem.run_bind, hrun, Result.andThen_ok, run_newVar, Sem.run_pure]
 exact newCells hI ((hrel F).cellsOk hok) hK
theorem opS_box {o : Oper} {t : TypeId} {x : Operand} {a : AX} (ho : o.op = .box t x) (ha : cOpd P t x = some a) : OpS P w₀ o (.box a) := by
 intro env σ K F act w hρ hI hK
 have ra := hρ x (by rw [ho]; simp [Op.operands]) _ _ ha
 simp only [wpA] at hK
 simp only [execOp, ho, Instr.box, Sem.run_bind, run_newVar, Result.andThen_ok, Sem.run_pure]
 exact newCells hI (ra.cellsOk hK.1) hK.2
theorem run_part {t : TypeId} {n : Nat} {g : Bool} (hn : szOf P t = some n) (hg : aggOf P t = some g) (vs : List Value) (off : Nat) (h : off + n ≤ vs.length) (hgn : g = true ∨ n = 1) :
  (part t ⟨vs⟩ off).run P w = .ok (if g then .agg ⟨(vs.drop off).take n⟩ else vs.getD off undef) w := by
 simp only [part, Sem.run_bind, run_isAgg' hg, Result.andThen_ok]
 cases g with
 | true => simp [run_sizeOf' hn]
 | false =>
   have h1 := hgn.resolve_left (by simp)
   subst h1
   have hlt : off < vs.length := by omega
   simp [hlt]
theorem opS_fld {o : Oper} {x : Operand} {s : TypeId} {f : Nat} {fs : Array Field} {fd : Field} {n : Nat} {g : Bool} {a : AX} (ho : o.op = .field s x f) (hs : P.underlying s = some (.struct fs))
  (hf : fs[f]? = some fd) (hn : szOf P fd.type = some n) (hg : aggOf P fd.type = some g) (ha : cOpd P s x = some a) : OpS P w₀ o (.fld g fd.offset n a) := by
 intro env σ K F act w hρ hI hK
 have ra := hρ x (by rw [ho]; simp [Op.operands]) _ _ ha
 simp only [wpA] at hK
 split at hK
 ·rename_i xs h1
  rw [h1] at ra
  obtain ⟨vs, hv, ho1, hr⟩ := ra.agg_inv
  obtain ⟨hle, hK⟩ := hK
  have hgn : g = true ∨ n = 1 := by cases g with | true => exact .inl rfl | false => exact .inr hK.1
  have hp := run_part (P := P) (w := w) hn hg vs fd.offset (by rw [← hr.length]; exact hle) hgn
  simp only [execOp, ho, hv]
  cases g with
  | true => exact pureRun' (by simp [Instr.field, run_underlying hs, hf, asAgg, hp]) hI (.agg (all_drop_take ho1 _ _) (hr.dropTake _ _)) hK
  | false =>
    obtain ⟨rfl, hK⟩ := hK
    have hlt : fd.offset < xs.length := by omega
    obtain ⟨v, hv', hrel⟩ := hr.get (i := fd.offset) (x := xs[fd.offset]) (by simp [hlt])
    refine pureRun' (cv := v) ?_ hI hrel (by simpa [List.getD_eq_getElem?_getD, hlt] using hK)
    simp [Instr.field, run_underlying hs, hf, asAgg, hp, List.getD_eq_getElem?_getD, hv']
 ·exact hK.elim
end
end Go.AL
namespace Go.AL
open Go.RowKit
set_option linter.unusedVariables false
set_option linter.unusedSectionVars false
set_option linter.unusedSimpArgs false
theorem flatMap_drop {sz : Nat} : ∀ {xs : List AV}, (∀ x ∈ xs, x.cells.length = sz) → ∀ i, (xs.drop i).flatMap AV.cells = (xs.flatMap AV.cells).drop (i * sz)
 | _, _, 0 => by simp
 | [], _, _ + 1 => by simp
 | x :: xs, h, i + 1 => by
   have hx : x.cells.length = sz := h x (by simp)
   rw [List.drop_succ_cons, flatMap_drop (fun y hy => h y (by simp [hy])) i, List.flatMap_cons, List.drop_append, Nat.succ_mul]
   simp [hx, List.drop_eq_nil_of_le, show sz ≤ i * sz + sz by omega]
theorem flatMap_take {sz : Nat} : ∀ {xs : List AV}, (∀ x ∈ xs, x.cells.length = sz) → ∀ i, (xs.take i).flatMap AV.cells = (xs.flatMap AV.cells).take (i * sz)
 | _, _, 0 => by simp
 | [], _, _ + 1 => by simp
 | x :: xs, h, i + 1 => by
   have hx : x.cells.length = sz := h x (by simp)
   rw [List.take_succ_cons, List.flatMap_cons, flatMap_take (fun y hy => h y (by simp [hy])) i, List.flatMap_cons, List.take_append, Nat.succ_mul]
   simp [hx, List.take_of_length_le, show x.cells.length ≤ i * sz + sz by omega]
theorem flatMap_length {sz : Nat} : ∀ {xs : List AV}, (∀ x ∈ xs, x.cells.length = sz) → (xs.flatMap AV.cells).length = xs.length * sz
 | [], _ => by simp
 | x :: xs, h => by
   have hx : x.cells.length = sz := h x (by simp)
   rw [List.flatMap_cons, List.length_append, flatMap_length (fun y hy => h y (by simp [hy])), hx, List.length_cons, Nat.succ_mul]; omega
section
variable {P : Program} {w₀ : World} {F : Gh} {σ : AH} {w : World} {K : AV → AH → Prop}
theorem all_take {xs : List AV} (h : xs.all AV.one = true) (n : Nat) : (xs.take n).all AV.one = true := by
 have := all_drop_take h 0 n; simpa using this
theorem all_drop {xs : List AV} (h : xs.all AV.one = true) (n : Nat) : (xs.drop n).all AV.one = true := by
 rw [List.all_eq_true] at *
 exact fun x hx => h x (List.mem_of_mem_drop hx)
theorem opS_ia {o : Oper} {x i : Operand} {t e : TypeId} {sz : Nat} {a b : AX} (ho : o.op = .indexAddr t x i) (ht : P.underlying t = some (.slice e)) (hn : szOf P e = some sz)
  (ha : cOpd P t x = some a) (hb : cOpd P 0 i = some b) : OpS P w₀ o (.ia sz a b) := by
 intro env σ K F act w hρ hI hK
 have ra := hρ x (by rw [ho]; simp [Op.operands]) _ _ ha
 have rb := hρ i (by rw [ho]; simp [Op.operands]) _ _ hb
 have hrun : ∀ blk off n c k j, act.eval x = .slice (some ⟨blk, off, none⟩) n c → act.eval i = .int k j → 0 ≤ j → j < n →
   (Instr.indexAt t (act.eval x) (act.eval i)).run P w = .ok (.pointer (some ⟨blk, off + j.toNat * sz, none⟩)) w := by
  intro blk off n c k j hx hi h0 h1
  simp [Instr.indexAt, hx, hi, asIntOf, run_underlying ht, h0, h1, run_sizeOf' hn, Addr.add_mk]
 simp only [wpA] at hK
 split at hK
 ·rename_i sz' xs tk k j h1 h2
  rw [h1] at ra; rw [h2] at rb
  obtain ⟨rfl, h0, hlt, hK⟩ := hK
  rcases ra.lst_inv with ⟨_, _, _, rfl, _⟩ | ⟨us, blk, off, c, hv, ho1, hr, hi, hs, hc, hm, htk⟩
  ·simp at hlt; omega
  ·simp only [execOp, ho]
   have hj : j.toNat < xs.length := by omega
   have hcells : (xs.getD j.toNat .any).cells = ((xs.flatMap AV.cells).drop (j.toNat * sz')).take sz' := by
    rw [← flatMap_drop hs, List.getD_eq_getElem?_getD, List.getElem?_eq_getElem hj, Option.getD_some, List.drop_eq_getElem_cons hj, List.flatMap_cons]
    rw [List.take_append_of_le_length (by rw [hs _ (List.getElem_mem hj)]; exact Nat.le_refl _), List.take_of_length_le (by rw [hs _ (List.getElem_mem hj)]; exact Nat.le_refl _)]
   refine pureRun' (hrun blk off xs.length c k j hv rb.int_inv h0 hlt) hI (Rel.elt (us := (us.drop (j.toNat * sz')).take sz') ?_ ?_ fun q u hu => ?_) hK
   ·rw [hcells]; exact all_drop_take ho1 _ _
   ·rw [hcells]; exact hr.dropTake _ _
   ·rw [List.getElem?_take] at hu
    split at hu
    ·rw [List.getElem?_drop] at hu; rw [Nat.add_assoc]; exact hi _ _ hu
    ·cases hu
 ·rename_i sz' blk off n c k j h1 h2
  rw [h1] at ra; rw [h2] at rb
  obtain ⟨rfl, h0, hlt, hK⟩ := hK
  simp only [execOp, ho]
  exact pureRun' (hrun blk off n c k j ra.slc_inv rb.int_inv h0 hlt) hI (.ptr _ _) hK
 ·exact hK.elim
theorem opS_idx {o : Oper} {x i : Operand} {t : TypeId} {a b : AX} (ho : o.op = .index t x i) (ht : P.underlying t = some .string) (ha : cOpd P t x = some a) (hb : cOpd P 0 i = some b) : OpS P w₀ o (.idx a b) := by
 intro env σ K F act w hρ hI hK
 have ra := hρ x (by rw [ho]; simp [Op.operands]) _ _ ha
 have rb := hρ i (by rw [ho]; simp [Op.operands]) _ _ hb
 simp only [wpA] at hK
 split at hK
 ·rename_i s k j h1 h2
  rw [h1] at ra; rw [h2] at rb
  obtain ⟨h0, hlt, hK⟩ := hK
  simp only [execOp, ho, ra.str_inv, rb.int_inv]
  have hj : j.toNat < s.size := by omega
  refine pureRun' ?_ hI (.int _ _) hK
  have hg : s[j.toNat]? = some s[j.toNat] := by simp [hj]
  have hb : byteAt s j.toNat = (s[j.toNat]).toNat := by
   unfold byteAt
   rw [List.getElem?_eq_getElem (by simpa using hj)]; rfl
  simp [Instr.index, asIntOf, run_underlying ht, h0, hg, hb]
 ·exact hK.elim
theorem map_toArr {α β : Type} (f : α → β) (xs : Array α) : (⟨xs.toList.map f⟩ : Array β) = xs.map f := by
 apply Array.ext'; simp
theorem run_builtin {o : Oper} {b : Builtin} {args : Array Operand} {ts : Array TypeId} (ho : o.op = .call { callee := .builtin b, args := args, argTypes := ts }) (act : Act) :
  ∃ cs, (execOp act.eval o).run P w = (builtin b ts o.type cs (args.map act.eval)).run P w := by
 refine ⟨args.map fun | .const _ => true | _ => false, ?_⟩
 simp only [execOp, ho, resolve, Sem.run_bind, Sem.run_pure, Result.andThen_ok]
 rfl
theorem opS_slen {o : Oper} {x : Operand} {t : TypeId} {a : AX} (ho : o.op = .call { callee := .builtin .len, args := ⟨[x]⟩, argTypes := ⟨[t]⟩ })
  (ht : P.underlying t = some .string) (ha : cOpd P t x = some a) : OpS P w₀ o (.slen a) := by
 intro env σ K F act w hρ hI hK
 have ra := hρ x (by rw [ho]; simp [Op.operands, Call.operands]) _ _ ha
 simp only [wpA] at hK
 obtain ⟨cs, hrun⟩ := run_builtin (P := P) (w := w) ho act
 rw [hrun]
 split at hK
 ·rename_i s h1
  rw [h1] at ra
  exact pureRun' (by simp [Builtin.len_, run_underlying ht, ra.str_inv, goInt]) hI (.int _ _) (hK ra.str_sz)
 ·exact hK.elim
theorem opS_len {o : Oper} {x : Operand} {t e : TypeId} {a : AX} (ho : o.op = .call { callee := .builtin .len, args := ⟨[x]⟩, argTypes := ⟨[t]⟩ })
  (ht : P.underlying t = some (.slice e)) (ha : cOpd P t x = some a) : OpS P w₀ o (.len a) := by
 intro env σ K F act w hρ hI hK
 have ra := hρ x (by rw [ho]; simp [Op.operands, Call.operands]) _ _ ha
 simp only [wpA] at hK
 obtain ⟨cs, hrun⟩ := run_builtin (P := P) (w := w) ho act
 rw [hrun]
 split at hK
 ·rename_i sz xs tk h1
  rw [h1] at ra
  rcases ra.lst_inv with ⟨_, _, hv, rfl, _⟩ | ⟨us, blk, off, c, hv, _, _, _, _, hcc, hm, _⟩
  ·exact pureRun' (by simp [Builtin.len_, run_underlying ht, hv, goInt]) hI (.int _ _) (hK (by simp))
  ·exact pureRun' (by simp [Builtin.len_, run_underlying ht, hv, goInt]) hI (.int _ _) (hK (by omega))
 ·rename_i h1
  rw [h1] at ra
  exact pureRun' (by simp [Builtin.len_, run_underlying ht, ra.slc_inv, goInt]) hI (.int _ _) hK
 ·exact hK.elim
theorem opS_mkf {o : Oper} {f : Fn} {first cap : Array Operand} {a b : List AX} (ho : o.op = .makeFunc f first cap) (ha : cOpds P [] first.toList = some a) (hb : cOpds P [] cap.toList = some b) : OpS P w₀ o (.mkf f a b) := by
 intro env σ K F act w hρ hI hK
 have h1 : OpdR P F env act.eval first.toList := hρ.sub fun y hy => by rw [ho]; simp [Op.operands]; exact .inl (by simpa using hy)
 have h2 : OpdR P F env act.eval cap.toList := hρ.sub fun y hy => by rw [ho]; simp [Op.operands]; exact .inr (by simpa using hy)
 simp only [wpA] at hK
 simp only [execOp, ho]
 refine pureRun' (cv := .func f ⟨first.toList.map act.eval⟩ ⟨cap.toList.map act.eval⟩) ?_ hI (.fn f (h1.list ha) (h2.list hb)) hK
 simp only [Instr.makeFunc, Sem.run_pure, map_toArr]
theorem opS_itoi {o : Oper} {x : Operand} {s d : TypeId} {k k' : IntKind} {a : AX} (ho : o.op = .convert s d x) (hs : P.underlying s = some (.int k')) (hd : P.underlying d = some (.int k)) (ha : cOpd P s x = some a) : OpS P w₀ o (.itoi k a) := by
 intro env σ K F act w hρ hI hK
 have ra := hρ x (by rw [ho]; simp [Op.operands]) _ _ ha
 simp only [wpA] at hK
 split at hK
 ·rename_i k2 n h1
  rw [h1] at ra
  simp only [execOp, ho, ra.int_inv]
  exact pureRun' (by simp [convert, run_underlying hs, run_underlying hd, Conv.intToInt]) hI (.int _ _) hK
 ·exact hK.elim
theorem opS_itos {o : Oper} {x : Operand} {s d : TypeId} {k' : IntKind} {a : AX} (ho : o.op = .convert s d x) (hs : P.underlying s = some (.int k')) (hd : P.underlying d = some .string) (ha : cOpd P s x = some a) : OpS P w₀ o (.itos a) := by
 intro env σ K F act w hρ hI hK
 have ra := hρ x (by rw [ho]; simp [Op.operands]) _ _ ha
 simp only [wpA] at hK
 split at hK
 ·rename_i k2 n h1
  rw [h1] at ra
  simp only [execOp, ho, ra.int_inv]
  exact pureRun' (by simp [convert, run_underlying hs, run_underlying hd, Conv.intToString]) hI (.str _ (Nat.lt_of_le_of_lt (Go.encode_size_le _) (by decide))) hK
 ·exact hK.elim
end
end Go.AL
namespace Go.AL
open Go.RowKit
set_option linter.unusedVariables false
set_option linter.unusedSectionVars false
set_option linter.unusedSimpArgs false
section
variable {P : Program} {w₀ : World} {F : Gh} {σ : AH} {w : World} {K : AV → AH → Prop}
theorem run_bound {env : Env} {act : Act} {lo : Option Operand} {lo' : Option AX} {l d y : Int} {code : BoundsCode} {n : Nat} (hl : cOptOpd P lo = some lo') (hρ : OpdR P F env act.eval lo.toList)
  (hb : bnd d (lo'.map (ev env)) = some l) (hy : y = n) (h0 : 0 ≤ l) (hle : l ≤ n) :
  (match lo.map act.eval with | some v => Instr.sliceBound v n code | none => pure d.toNat : Sem Nat).run P w = .ok l.toNat w := by
 cases lo with
 | none => cases hl; simp [bnd] at hb; subst hb; rfl
 | some x =>
   simp only [cOptOpd, Option.map_eq_some_iff] at hl
   obtain ⟨a, ha, rfl⟩ := hl
   have ra := hρ x (by simp) _ _ ha
   simp only [Option.map_some, bnd] at hb
   split at hb
   ·rename_i he; cases he
   ·rename_i k m hm
    cases hb
    simp only [Option.some.injEq] at hm
    rw [hm] at ra
    simp [Instr.sliceBound, ra.int_inv, asIntOf, h0, hle]
   ·cases hb
theorem opS_sub {o : Oper} {x : Operand} {lo hi : Option Operand} {lo' hi' : Option AX} {t : TypeId} {a : AX} (ho : o.op = .slice t x lo hi none) (ht : P.underlying t = some .string)
  (ha : cOpd P t x = some a) (hl : cOptOpd P lo = some lo') (hh : cOptOpd P hi = some hi') : OpS P w₀ o (.sub a lo' hi') := by
 intro env σ K F act w hρ hI hK
 have ra := hρ x (by rw [ho]; simp [Op.operands]) _ _ ha
 have r1 : OpdR P F env act.eval lo.toList := hρ.sub fun y hy => by rw [ho]; simp [Op.operands] at hy ⊢; exact .inr (.inl hy)
 have r2 : OpdR P F env act.eval hi.toList := hρ.sub fun y hy => by rw [ho]; simp [Op.operands] at hy ⊢; exact .inr (.inr hy)
 simp only [wpA] at hK
 split at hK
 ·rename_i s h1
  rw [h1] at ra
  split at hK
  ·rename_i l h hb1 hb2
   obtain ⟨h0, hlh, hhn, hK⟩ := hK
   have e2 : ∀ w, (match hi.map act.eval with | some v => Instr.sliceBound v s.size .sliceAlen | none => pure ((s.size : Int)).toNat : Sem Nat).run P w = .ok h.toNat w := fun w => run_bound (P := P) (w := w) (code := .sliceAlen) (n := s.size) hh r2 hb2 rfl (by omega) hhn
   have e1 : ∀ w, (match lo.map act.eval with | some v => Instr.sliceBound v h.toNat .sliceB | none => pure ((0 : Int)).toNat : Sem Nat).run P w = .ok l.toNat w := fun w => run_bound (P := P) (w := w) (code := .sliceB) (n := h.toNat) hl r1 hb1 rfl h0 (by omega)
   simp only [execOp, ho, ra.str_inv]
   refine pureRun' ?_ hI (.str _ (by have := ra.str_sz; rw [ByteArray.size_extract]; omega)) hK
   cases hi <;> cases lo <;> simp_all [Instr.sliceAt, run_underlying ht, Instr.slice, Instr.sliceBounds]
  ·exact hK.elim
 ·exact hK.elim
theorem TokAt.shift {b off len c sz l : Nat} {t : Tok} (h : TokAt b off len c sz t) (hl : l ≤ len) (hc : len ≤ c) : TokAt b (off + l * sz) (len - l) (c - l) sz t := by
 cases t with
 | none => trivial
 | clip => simp only [TokAt] at h ⊢; omega
 | own b' e lim =>
   obtain ⟨h1, h2, h3⟩ := h
   refine ⟨h1, ?_, ?_⟩
   ·rw [← h2, Nat.add_assoc, ← Nat.add_mul]; congr 2; omega
   ·have : l * sz + (c - l) * sz = c * sz := by rw [← Nat.add_mul]; congr 1; omega
    omega
theorem Rel.part {sz : Nat} {xs : List AV} {us : List Value} {b off : Nat} (ho1 : (xs.flatMap AV.cells).all AV.one = true) (hr : RelL F (xs.flatMap AV.cells) us)
  (hi : ∀ (i : Nat) (u : Value), us[i]? = some u → F b (off + i) = some u) (hs : ∀ x ∈ xs, x.cells.length = sz) (l h : Nat) (hlh : l ≤ h) (hh : h ≤ xs.length) {t : Tok} {off' c' : Nat}
  (hoff : off' = off + l * sz ∨ l = h) (hc : h - l ≤ c') (hm : c' < 9223372036854775808) (ht : TokAt b off' (h - l) c' sz t) : Rel F (.lst sz ((xs.take h).drop l) t) (.slice (some ⟨b, off', none⟩) (h - l) c') := by
 have hlen : ((xs.take h).drop l).length = h - l := by rw [List.length_drop, List.length_take]; omega
 have hs' : ∀ x ∈ (xs.take h).drop l, x.cells.length = sz := fun x hx => hs x (List.mem_of_mem_take (List.mem_of_mem_drop hx))
 have hf : ((xs.take h).drop l).flatMap AV.cells = ((xs.flatMap AV.cells).take (h * sz)).drop (l * sz) := by
  rw [flatMap_drop (fun x hx => hs x (List.mem_of_mem_take hx)), flatMap_take hs]
 refine .lst (us := (us.take (h * sz)).drop (l * sz)) ?_ ?_ (fun i u hu => ?_) hs' hc hm ht hlen
 ·rw [hf]; exact all_drop (all_take ho1 _) _
 ·rw [hf]; exact (hr.take _).drop _
 ·rcases hoff with rfl | rfl
  ·rw [List.getElem?_drop, List.getElem?_take] at hu
   split at hu
   ·rw [Nat.add_assoc]; exact hi _ _ hu
   ·cases hu
  ·rw [List.drop_eq_nil_of_le (by rw [List.length_take]; omega)] at hu
   simp at hu
theorem opS_slc {o : Oper} {x : Operand} {lo hi mx : Option Operand} {lo' hi' mx' : Option AX} {t e : TypeId} {sz : Nat} {a : AX} (ho : o.op = .slice t x lo hi mx) (ht : P.underlying t = some (.slice e)) (hn : szOf P e = some sz)
  (ha : cOpd P t x = some a) (hl : cOptOpd P lo = some lo') (hh : cOptOpd P hi = some hi') (hx : cOptOpd P mx = some mx') (hmh : mx'.isSome = true → hi'.isSome = true) : OpS P w₀ o (.slc sz a lo' hi' mx') := by
 intro env σ K F act w hρ hI hK
 have ra := hρ x (by rw [ho]; simp [Op.operands]) _ _ ha
 have r1 : OpdR P F env act.eval lo.toList := hρ.sub fun y hy => by rw [ho]; simp [Op.operands] at hy ⊢; exact .inr (.inl hy)
 have r2 : OpdR P F env act.eval hi.toList := hρ.sub fun y hy => by rw [ho]; simp [Op.operands] at hy ⊢; exact .inr (.inr (.inl hy))
 have r3 : OpdR P F env act.eval mx.toList := hρ.sub fun y hy => by rw [ho]; simp [Op.operands] at hy ⊢; exact .inr (.inr (.inr hy))
 -- the run, once the bounds are known
 have hrun2 : ∀ (p : Option Addr) (n c : Nat) (l h : Int), act.eval x = .slice p n c → mx' = none → bnd 0 (lo'.map (ev env)) = some l → bnd n (hi'.map (ev env)) = some h → 0 ≤ l → l ≤ h → h ≤ n → n ≤ c →
   (Instr.sliceAt t (act.eval x) (lo.map act.eval) (hi.map act.eval) (mx.map act.eval)).run P w = .ok (.slice (if c = l.toNat then p else p.map (·.add (l.toNat * sz))) (h.toNat - l.toNat) (c - l.toNat)) w := by
  intro p n c l h hv hm hb1 hb2 h0 hlh hhn hnc
  subst hm
  have hmx : mx = none := by cases mx with | none => rfl | some y => simp [cOptOpd] at hx
  subst hmx
  have e2 : ∀ w, (match hi.map act.eval with | some v => Instr.sliceBound v c .sliceAcap | none => pure ((n : Int)).toNat : Sem Nat).run P w = .ok h.toNat w := fun w => run_bound (P := P) (w := w) (code := .sliceAcap) (y := c) (n := c) hh r2 hb2 rfl (by omega) (by omega)
  have e1 : ∀ w, (match lo.map act.eval with | some v => Instr.sliceBound v h.toNat .sliceB | none => pure ((0 : Int)).toNat : Sem Nat).run P w = .ok l.toNat w := fun w => run_bound (P := P) (w := w) (code := .sliceB) (y := h.toNat) (n := h.toNat) hl r1 hb1 rfl h0 (by omega)
  rw [hv]
  cases hi <;> cases lo <;> simp_all [Instr.sliceAt, run_underlying ht, Instr.slice, Instr.sliceBounds, run_sizeOf' hn]
 have hrun3 : ∀ (p : Option Addr) (n c : Nat) (k : IntKind) (l h : Int), act.eval x = .slice p n c → mx'.map (ev env) = some (.int k h) → bnd 0 (lo'.map (ev env)) = some l → bnd n (hi'.map (ev env)) = some h → 0 ≤ l → l ≤ h → h ≤ n → n ≤ c →
   (Instr.sliceAt t (act.eval x) (lo.map act.eval) (hi.map act.eval) (mx.map act.eval)).run P w = .ok (.slice (if h.toNat = l.toNat then p else p.map (·.add (l.toNat * sz))) (h.toNat - l.toNat) (h.toNat - l.toNat)) w := by
  intro p n c k l h hv hm hb1 hb2 h0 hlh hhn hnc
  cases mx with
  | none => simp [cOptOpd] at hx; subst hx; simp at hm
  | some y =>
    have e3 : ∀ w, (match (some y).map act.eval with | some v => Instr.sliceBound v c .slice3Acap | none => pure ((0 : Int)).toNat : Sem Nat).run P w = .ok h.toNat w := fun w => run_bound (P := P) (w := w) (lo := some y) (d := 0) (code := .slice3Acap) (y := c) (n := c) hx r3 (by rw [hm]; rfl) rfl (by omega) (by omega)
    cases hi with
    | none =>
      have : hi' = none := by simpa [cOptOpd] using hh.symm
      subst this
      have := hmh (by cases mx' with | none => simp at hm | some _ => rfl)
      simp at this
    | some z =>
      have e2 : ∀ w, (match (some z).map act.eval with | some v => Instr.sliceBound v h.toNat .slice3B | none => pure ((n : Int)).toNat : Sem Nat).run P w = .ok h.toNat w := fun w => run_bound (P := P) (w := w) (lo := some z) (code := .slice3B) (y := h.toNat) (n := h.toNat) hh r2 hb2 rfl (by omega) (by omega)
      have e1 : ∀ w, (match lo.map act.eval with | some v => Instr.sliceBound v h.toNat .slice3C | none => pure ((0 : Int)).toNat : Sem Nat).run P w = .ok l.toNat w := fun w => run_bound (P := P) (w := w) (code := .slice3C) (y := h.toNat) (n := h.toNat) hl r1 hb1 rfl h0 (by omega)
      rw [hv]
      cases lo <;> simp_all [Instr.sliceAt, run_underlying ht, Instr.slice, Instr.sliceBounds, run_sizeOf' hn]
 simp only [wpA] at hK
 split at hK
 ·rename_i sz' xs tk h1
  rw [h1] at ra
  split at hK
  ·rename_i l h hb1 hb2 hmn
   obtain ⟨rfl, h0, hlh, hhn, hK⟩ := hK
   have hmn' : mx' = none := by cases mx' with | none => rfl | some _ => simp at hmn
   simp only [execOp, ho]
   rcases ra.lst_inv with ⟨p, c, hv, rfl, htk, hm⟩ | ⟨us, blk, off, c, hv, ho1, hr, hi', hs, hc, hm, htk⟩
   ·have hz : h = 0 := by simp at hhn; omega
    have hl0 : l = 0 := by omega
    subst hz; subst hl0
    refine pureRun' (hrun2 p 0 c 0 0 hv hmn' hb1 hb2 (by omega) (by omega) (by simp) (by simp)) hI ?_ (by simpa using hK)
    simp
    exact .lnil _ _ _ _ htk hm
   ·have hrun := hrun2 _ _ _ l h hv hmn' hb1 hb2 h0 hlh hhn hc
    have hh' : h.toNat ≤ xs.length := by omega
    by_cases hcl : c = l.toNat
    ·have : h.toNat = l.toNat := by omega
     have hhl : h = (xs.length : Int) := by omega
     rw [if_pos hcl] at hrun
     rw [if_pos hhl] at hK
     have hrel := Rel.part (F := F) (t := .clip) (c' := c - l.toNat) (off' := off) ho1 hr hi' hs l.toNat h.toNat (by omega) hh' (.inr this.symm) (by omega) (by omega) (by simp only [TokAt]; omega)
     by_cases hl0 : l = 0
     ·rw [if_pos hl0] at hK
      have hx0 : xs.length = 0 := by omega
      refine pureRun' hrun hI (Rel.part (F := F) (c' := c - l.toNat) (off' := off) ho1 hr hi' hs l.toNat h.toNat (by omega) hh' (.inr this.symm) (by omega) (by omega) ?_) hK
      have h2 := htk.shift (l := 0) (by omega) (by omega)
      rw [this]; simpa [hl0, hx0] using h2
     ·rw [if_neg hl0] at hK
      exact pureRun' hrun hI hrel (hK _ (.inr rfl))
    ·rw [if_neg hcl] at hrun
     simp only [Option.map_some, Addr.add_mk] at hrun
     by_cases hhl : h = (xs.length : Int)
     ·have hlen : h.toNat = xs.length := by omega
      rw [if_pos hhl] at hK
      have hrel := Rel.part (F := F) (t := tk) (c' := c - l.toNat) ho1 hr hi' hs l.toNat h.toNat (by omega) hh' (.inl rfl) (by omega) (by omega) (by rw [hlen]; exact htk.shift (by omega) hc)
      by_cases hl0 : l = 0
      ·rw [if_pos hl0] at hK; exact pureRun' hrun hI hrel hK
      ·rw [if_neg hl0] at hK; exact pureRun' hrun hI hrel (hK _ (.inl rfl))
     ·rw [if_neg hhl] at hK
      exact pureRun' hrun hI (Rel.part (F := F) (t := .none) (c' := c - l.toNat) ho1 hr hi' hs l.toNat h.toNat (by omega) hh' (.inl rfl) (by omega) (by omega) trivial) hK
  ·rename_i l h k m hb1 hb2 hmm
   obtain ⟨rfl, h0, hlh, rfl, hhn, hK⟩ := hK
   simp only [execOp, ho]
   rcases ra.lst_inv with ⟨p, c, hv, rfl, htk, hm⟩ | ⟨us, blk, off, c, hv, ho1, hr, hi', hs, hc, hm, htk⟩
   ·have hz : h = 0 := by simp at hhn; omega
    have hl0 : l = 0 := by omega
    subst hz; subst hl0
    refine pureRun' (hrun3 p 0 c k 0 0 hv hmm hb1 hb2 (by omega) (by omega) (by simp) (by simp)) hI ?_ (by simpa using hK)
    simp
    exact .lnil _ _ _ _ (.inr ⟨rfl, rfl⟩) (by decide)
   ·have hrun := hrun3 _ _ _ k l h hv hmm hb1 hb2 h0 hlh hhn hc
    have hh' : h.toNat ≤ xs.length := by omega
    by_cases hcl : h.toNat = l.toNat
    ·rw [if_pos hcl] at hrun
     exact pureRun' hrun hI (Rel.part (F := F) (t := .clip) (off' := off) ho1 hr hi' hs l.toNat h.toNat (by omega) hh' (.inr hcl.symm) (Nat.le_refl _) (by omega) rfl) hK
    ·rw [if_neg hcl] at hrun
     simp only [Option.map_some, Addr.add_mk] at hrun
     exact pureRun' hrun hI (Rel.part (F := F) (t := .clip) ho1 hr hi' hs l.toNat h.toNat (by omega) hh' (.inl rfl) (Nat.le_refl _) (by omega) rfl) hK
  ·exact hK.elim
 ·rename_i sz' blk off n c h1
  rw [h1] at ra
  split at hK
  ·rename_i l h hb1 hb2 hmn
   have hmn' : mx' = none := by cases mx' with | none => rfl | some _ => simp at hmn
   obtain ⟨rfl, h0, hlh, hhn, hnc, hlc, hK⟩ := hK
   simp only [execOp, ho]
   have hrun := hrun2 _ _ _ l h ra.slc_inv hmn' hb1 hb2 h0 hlh hhn (by omega)
   rw [if_neg (by omega)] at hrun
   simp only [Option.map_some, Addr.add_mk] at hrun
   rcases hK with hK | ⟨rfl, rfl, rfl, hc63, hK⟩
   ·exact pureRun' hrun hI (.slc _ _ _ _ _) hK
   ·exact pureRun' (v := .lst sz' [] (.own blk 0 (c * sz'))) hrun hI (.lst (us := []) rfl .nil (fun i u hu => by simp at hu) (fun x hx => by cases hx) (Nat.zero_le _) (by omega) ⟨rfl, by simp, by simp⟩ rfl) hK
  ·exact hK.elim
 ·exact hK.elim
end
end Go.AL
namespace Go.AL
open Go.RowKit
set_option linter.unusedVariables false
set_option linter.unusedSectionVars false
set_option linter.unusedSimpArgs false
/-! ### Filling a row of cells -/
theorem foldl_setAt (off : Nat) : ∀ (vs : List Value) (k : Nat) (cs : Array Value),
  ((vs.zipIdx k).foldl (fun (cs : Array Value) (p : Value × Nat) => cs.setIfInBounds (off + p.2) p.1) cs).toList = setAt cs.toList (off + k) vs
 | [], _, _ => rfl
 | v :: vs, k, cs => by
   rw [List.zipIdx_cons, List.foldl_cons, foldl_setAt off vs (k + 1), setAt]
   simp [Nat.add_assoc]
theorem setAt_append {α : Type} : ∀ (ys xs zs : List α) (o : Nat), o + ys.length ≤ xs.length → setAt (xs ++ zs) o ys = setAt xs o ys ++ zs
 | [], _, _, _, _ => rfl
 | y :: ys, xs, zs, o, h => by
   simp only [List.length_cons] at h
   rw [setAt, setAt, List.set_append_left _ _ (by omega)]
   exact setAt_append ys _ zs (o + 1) (by simp; omega)
theorem setAt_append_right {α : Type} : ∀ (ys xs zs : List α) (o : Nat), setAt (xs ++ zs) (xs.length + o) ys = xs ++ setAt zs o ys
 | [], _, _, _ => rfl
 | y :: ys, xs, zs, o => by
   rw [setAt, setAt, List.set_append_right _ _ (by omega), Nat.add_sub_cancel_left]
   exact setAt_append_right ys xs _ (o + 1)
theorem setAt_all {α : Type} : ∀ (ys : List α) (xs : List α), ys.length = xs.length → setAt xs 0 ys = ys := by
 intro ys xs h
 have : ∀ (ys done xs : List α), ys.length = xs.length → setAt (done ++ xs) done.length ys = done ++ ys := by
  intro ys
  induction ys with
  | nil => intro done xs h; cases xs with | nil => rfl | cons _ _ => simp at h
  | cons y ys ih =>
    intro done xs h
    cases xs with
    | nil => simp at h
    | cons x xs =>
      rw [setAt, List.set_append_right _ _ (Nat.le_refl _), Nat.sub_self, List.set_cons_zero]
      have := ih (done ++ [y]) xs (by simpa using h)
      simpa using this
 simpa using this ys [] xs h
theorem flatMap_set {sz : Nat} : ∀ {xs : List AV} {x : AV} (i : Nat), (∀ y ∈ xs, y.cells.length = sz) → x.cells.length = sz → i < xs.length → (xs.set i x).flatMap AV.cells = setAt (xs.flatMap AV.cells) (i * sz) x.cells
 | [], _, _, _, _, h => by simp at h
 | y :: xs, x, 0, hs, hx, _ => by
   have hy := hs y (by simp)
   rw [List.set_cons_zero, List.flatMap_cons, List.flatMap_cons, Nat.zero_mul, setAt_append _ _ _ _ (by omega), setAt_all _ _ (by omega)]
 | y :: xs, x, i + 1, hs, hx, h => by
   have hy := hs y (by simp)
   rw [List.set_cons_succ, List.flatMap_cons, List.flatMap_cons, flatMap_set i (fun z hz => hs z (by simp [hz])) hx (by simpa using h)]
   rw [show (i + 1) * sz = y.cells.length + i * sz by rw [hy, Nat.succ_mul, Nat.add_comm], setAt_append_right]
theorem AV.ok_bare {x : AV} (h : x.ok = true) : x.bare.ok = true := by
 cases x <;> first | exact h | (simp only [AV.bare, AV.ok, AV.cells, all_one_bare1] at *; exact h)
theorem AV.length_bare (x : AV) : x.bare.cells.length = x.cells.length := by
 cases x <;> simp [AV.bare, AV.cells]
section
variable {P : Program} {w₀ : World} {F : Gh} {σ : AH} {w : World} {K : AV → AH → Prop}
theorem fill_parts {env : Env} {act : Act} {fs : Array Field} {pl : List (Nat × Nat)} : ∀ {parts : List (Nat × Operand)} {l : List (Nat × Nat × AX)} {xs : List AV} {cells : Array Value} {cs : List AV},
  cParts P fs pl parts = some l → OpdR P F env act.eval (parts.map (·.2)) → RelL F xs cells.toList → putParts xs (l.map fun (o, n, x) => (o, n, ev env x)) = some cs → xs.all AV.one = true →
  ∃ out : Array Value, Instr.fill (fun i : Nat => pl[i]?) cells (parts.map fun (i, x) => (i, act.eval x)) = some out ∧ RelL F cs out.toList ∧ cs.all AV.one = true
 | [], l, xs, cells, cs, h, _, hr, hp, ha => by
   cases h; simp [putParts] at hp; subst hp; exact ⟨cells, rfl, hr, ha⟩
 | (i, x) :: parts, l, xs, cells, cs, h, hρ, hr, hp, ha => by
   simp only [cParts, Option.bind_eq_some_iff, Option.map_eq_some_iff] at h
   obtain ⟨f, hf, p, hpl, a, hxa, l', hl', rfl⟩ := h
   obtain ⟨off, n⟩ := p
   have rx := hρ x (by simp) _ _ hxa
   simp only [List.map_cons, putParts] at hp
   split at hp
   ·rename_i hc
    obtain ⟨h1, h2, h3⟩ := hc
    have hcs := rx.cellsOk h3
    have hsz : (act.eval x).cells.size = n := by rw [← h1, hcs.length]; simp
    have h5 : xs.length = cells.size := by simpa using hr.length
    have hle : off + (act.eval x).cells.size ≤ cells.size := by omega
    simp only [List.map_cons, Instr.fill, hpl]
    rw [if_neg (by rw [Bool.or_eq_true, decide_eq_true_eq, decide_eq_true_eq]; omega)]
    refine fill_parts hl' (hρ.sub fun y hy => by simp [hy]) ?_ hp ?_
    ·have := foldl_setAt off (act.eval x).cells.toList 0 cells
     rw [← Array.foldl_toList, Array.toList_zipIdx, this]
     exact hr.setAt off hcs
    ·have h4 : ∀ (ys xs : List AV) (o : Nat), ys.all AV.one = true → xs.all AV.one = true → (setAt xs o ys).all AV.one = true := by
      intro ys
      induction ys with
      | nil => intro xs o _ h; exact h
      | cons y ys ih =>
        intro xs o h h'
        simp only [List.all_cons, Bool.and_eq_true] at h
        refine ih _ _ h.2 ?_
        rw [List.all_eq_true] at *
        intro z hz
        rcases List.mem_or_eq_of_mem_set hz with hz | rfl
        ·exact h' z hz
        ·exact h.1
     exact h4 _ _ _ h3 ha
   ·cases hp
theorem places_run : ∀ {fs : List Field} {pl : List (Nat × Nat)}, placesOf P fs = some pl → ∀ w, (fs.mapM fun f => (do pure (f.offset, ← sizeOf f.type) : Sem (Nat × Nat))).run P w = .ok pl w
 | [], _, h, w => by cases h; simp
 | f :: fs, pl, h, w => by
   simp only [placesOf, Option.bind_eq_some_iff, Option.map_eq_some_iff] at h
   obtain ⟨n, hn, l, hl, rfl⟩ := h
   rw [List.mapM_cons]
   simp only [Sem.run_bind, run_sizeOf' hn, Result.andThen_ok, Sem.run_pure, places_run hl]
theorem opS_build {o : Oper} {t : TypeId} {fs : Array Field} {parts : Array (Nat × Operand)} {z : AV} {pl : List (Nat × Nat)} {l : List (Nat × Nat × AX)} (ho : o.op = .build t parts) (ht : P.underlying t = some (.struct fs))
  (hz : zeroAV P t = some z) (hpl : placesOf P fs.toList = some pl) (hl : cParts P fs pl parts.toList = some l) : OpS P w₀ o (.build z.cells l) := by
 intro env σ K F act w hρ hI hK
 obtain ⟨zv, hzr, hrel, hok, _⟩ := zeroAV_run hz
 have h1 : OpdR P F env act.eval (parts.toList.map (·.2)) := hρ.sub fun y hy => by rw [ho]; simpa [Op.operands] using hy
 simp only [wpA] at hK
 split at hK
 ·rename_i cs hcs
  obtain ⟨hall, hK⟩ := hK
  obtain ⟨out, hfill, hro, hao⟩ := fill_parts (cells := zv.cells) hl h1 ((hrel F).cellsOk hok) hcs hall
  simp only [execOp, ho]
  have hmap : (parts.map fun (i, x) => (i, act.eval x)).toList = parts.toList.map fun (i, x) => (i, act.eval x) := by simp
  have hpm : (fs.mapM fun f => (do pure (f.offset, ← sizeOf f.type) : Sem (Nat × Nat))).run P w = .ok ⟨pl⟩ w := by
   rw [Array.mapM_eq_mapM_toList, Sem.run_map, places_run hpl]; rfl
  have hfun : (fun i : Nat => (⟨pl⟩ : Array (Nat × Nat))[i]?) = fun i : Nat => pl[i]? := by funext i; simp
  refine pureRun' (cv := .agg out) ?_ hI (.agg hao hro) hK
  simp only [Instr.build, Sem.run_bind, hzr, Result.andThen_ok, run_underlying ht, hpm, hmap, hfun, hfill, Sem.run_pure]
 ·exact hK.elim
theorem fill_elems {env : Env} {act : Act} {e : TypeId} {sz : Nat} : ∀ {parts : List (Nat × Operand)} {l : List (Nat × AX)} {xs : List AV} {cells : Array Value} {cs : List AV},
  cElems P e parts = some l → OpdR P F env act.eval (parts.map (·.2)) → RelL F (xs.flatMap AV.cells) cells.toList → (∀ x ∈ xs, x.cells.length = sz) → (xs.flatMap AV.cells).all AV.one = true →
  putElems sz xs (l.map fun (i, x) => (i, ev env x)) = some cs →
  ∃ out : Array Value, Instr.fill (fun i => some (i * sz, sz)) cells (parts.map fun (i, x) => (i, act.eval x)) = some out ∧ RelL F (cs.flatMap AV.cells) out.toList ∧ (∀ x ∈ cs, x.cells.length = sz) ∧ (cs.flatMap AV.cells).all AV.one = true ∧ cs.length = xs.length
 | [], l, xs, cells, cs, h, _, hr, hs, ha, hp => by
   cases h; simp [putElems] at hp; subst hp; exact ⟨cells, rfl, hr, hs, ha, rfl⟩
 | (i, x) :: parts, l, xs, cells, cs, h, hρ, hr, hs, ha, hp => by
   simp only [cElems, Option.bind_eq_some_iff, Option.map_eq_some_iff] at h
   obtain ⟨a, hxa, l', hl', rfl⟩ := h
   have rx := hρ x (by simp) _ _ hxa
   simp only [List.map_cons, putElems] at hp
   split at hp
   ·rename_i hc
    obtain ⟨h1, h2, h3⟩ := hc
    have hcs := rx.cellsOk h3
    have hbs := rx.bare.cellsOk (AV.ok_bare h3)
    have hsz : (act.eval x).cells.size = sz := by rw [← h1, hcs.length]; simp
    have hlb : (ev env a).bare.cells.length = sz := by rw [AV.length_bare, h1]
    have h5 : (xs.flatMap AV.cells).length = cells.size := by simpa using hr.length
    rw [flatMap_length hs] at h5
    have hle : i * sz + (act.eval x).cells.size ≤ cells.size := by
     rw [hsz, ← h5, ← Nat.succ_mul]; exact Nat.mul_le_mul_right _ h2
    simp only [List.map_cons, Instr.fill]
    rw [if_neg (by rw [Bool.or_eq_true, decide_eq_true_eq, decide_eq_true_eq]; omega)]
    have hs' : ∀ y ∈ xs.set i (ev env a).bare, y.cells.length = sz := by
     intro y hy
     rcases List.mem_or_eq_of_mem_set hy with hy | rfl
     ·exact hs y hy
     ·exact hlb
    have ha' : ((xs.set i (ev env a).bare).flatMap AV.cells).all AV.one = true := by
     rw [List.all_eq_true] at *
     intro z hz
     obtain ⟨y, hy, hzy⟩ := List.mem_flatMap.1 hz
     rcases List.mem_or_eq_of_mem_set hy with hy | rfl
     ·exact ha z (List.mem_flatMap.2 ⟨y, hy, hzy⟩)
     ·have := AV.ok_bare h3
      rw [AV.ok, List.all_eq_true] at this
      exact this z hzy
    obtain ⟨out, h6, h7, h8, h9, h10⟩ := fill_elems (cells := (act.eval x).cells.zipIdx.foldl (fun cs (c, j) => cs.setIfInBounds (i * sz + j) c) cells) hl' (hρ.sub fun y hy => by simp [hy]) (by
     rw [flatMap_set i hs hlb h2]
     have := foldl_setAt (i * sz) (act.eval x).cells.toList 0 cells
     rw [← Array.foldl_toList, Array.toList_zipIdx, this]
     exact hr.setAt _ hbs) hs' ha' hp
    exact ⟨out, h6, h7, h8, h9, by simpa using h10⟩
   ·cases hp
theorem bare_cells (z : AV) : z.bare.cells.length = z.cells.length := by cases z <;> simp [AV.bare, AV.cells]
theorem bare_ok (z : AV) : z.bare.ok = z.ok := by
 cases z <;> simp only [AV.bare, AV.ok, AV.cells, all_one_bare1] <;> rfl
theorem RelL.replicate {x : AV} {us : List Value} (h : RelL F x.cells us) : ∀ n, RelL F ((List.replicate n x).flatMap AV.cells) (List.replicate n us).flatten
 | 0 => .nil
 | n + 1 => by rw [List.replicate_succ, List.flatMap_cons, List.replicate_succ, List.flatten_cons]; exact h.append (h.replicate n)
theorem range_zero (us : List Value) (hu : us ≠ []) (n : Nat) : ((Array.range (n * us.length)).map fun k => (⟨us⟩ : Array Value)[k % us.length]!).toList = (List.replicate n us).flatten := by
 apply List.ext_getElem?
 intro k
 have hpos : 0 < us.length := List.length_pos_iff.2 hu
 have key : ∀ n k, (List.replicate n us).flatten[k]? = if k < n * us.length then us[k % us.length]? else none := by
  intro n
  induction n with
  | zero => intro k; simp
  | succ n ih =>
    intro k
    rw [List.replicate_succ, List.flatten_cons, List.getElem?_append]
    split
    ·rename_i h
     rw [if_pos (by rw [Nat.succ_mul]; omega), Nat.mod_eq_of_lt h]
    ·rename_i h
     rw [ih, Nat.succ_mul]
     by_cases hk : k < n * us.length + us.length
     ·rw [if_pos (by omega), if_pos hk, (Nat.mod_eq_sub_mod (a := k) (b := us.length) (by omega)).symm]
     ·rw [if_neg (by omega), if_neg hk]
 rw [key]
 by_cases hk : k < n * us.length
 ·rw [if_pos hk]
  have hm : k % us.length < us.length := Nat.mod_lt _ hpos
  simp [hk, hm]
 ·rw [if_neg hk]; simp; omega
theorem opS_bsl {o : Oper} {t e : TypeId} {len sz : Nat} {parts : Array (Nat × Operand)} {z : AV} {l : List (Nat × AX)} (ho : o.op = .buildSlice t len parts) (ht : P.underlying t = some (.slice e)) (hn : szOf P e = some sz)
  (hz : zeroAV P e = some z) (h24 : len * sz ≤ 2 ^ 24) (hzs : z.cells.length = sz) (hpos : 0 < sz) (hl : cElems P e parts.toList = some l) : OpS P w₀ o (.bsl sz len z l) := by
 intro env σ K F act w hρ hI hK
 obtain ⟨zv, hzr, hrel, hok, _⟩ := zeroAV_run hz
 have h1 : OpdR P F env act.eval (parts.toList.map (·.2)) := hρ.sub fun y hy => by rw [ho]; simpa [Op.operands] using hy
 have hokb : z.bare.ok = true := by rw [bare_ok]; exact hok
 have hzc := (hrel F).bare.cellsOk hokb
 have hzl : zv.cells.size = sz := by rw [← hzs, ← bare_cells, hzc.length]; simp
 simp only [wpA] at hK
 split at hK
 ·rename_i cs hcs
  obtain ⟨_, _, hK⟩ := hK
  have hmap : (parts.map fun (i, x) => (i, act.eval x)).toList = parts.toList.map fun (i, x) => (i, act.eval x) := by simp
  have hzne : zv.cells.toList ≠ [] := by intro h; rw [← Array.length_toList, h] at hzl; simp at hzl; omega
  obtain ⟨out, h6, h7, h8, h9, h10⟩ := fill_elems (F := F) (sz := sz) (xs := List.replicate len z.bare) (cells := (Array.range (len * sz)).map fun k => zv.cells[k % zv.cells.size]!) hl h1 (by
   have := range_zero zv.cells.toList hzne len
   rw [show zv.cells.toList.length = sz by simpa using hzl] at this
   rw [hzl, this]
   exact RelL.replicate hzc len) (fun x hx => by rw [(List.mem_replicate.1 hx).2, bare_cells]; exact hzs) (by
   rw [List.all_eq_true]
   intro x hx
   obtain ⟨y, hy, hxy⟩ := List.mem_flatMap.1 hx
   rw [(List.mem_replicate.1 hy).2] at hxy
   rw [AV.ok, List.all_eq_true] at hokb
   exact hokb x hxy) hcs
  have hlen : cs.length = len := by simpa using h10
  simp only [execOp, ho]
  have hrun : (Instr.buildSlice t len (parts.map fun (i, x) => (i, act.eval x))).run P w = .ok (.slice (some ⟨w.heap.size, 0, none⟩) len len) (w.alloc (.cells out e)) := by
   have h24' : ¬ len * sz > 2 ^ 24 := by omega
   simp only [Instr.buildSlice, Sem.run_bind, run_underlying ht, Result.andThen_ok, run_sizeOf' hn, h24', if_false, hmap, Sem.run_pure]
   by_cases h0 : len * sz = 0
   ·have hl0 : len = 0 := by rcases Nat.mul_eq_zero.1 h0 with h | h <;> omega
    subst hl0
    simp only [Nat.zero_mul, if_true, Sem.run_pure, Result.andThen_ok] at h6 ⊢
    rw [pure_bind, show ((Array.range 0).map fun k => (#[] : Array Value)[k % (#[] : Array Value).size]!) = ((Array.range 0).map fun k => zv.cells[k % zv.cells.size]!) by simp, h6]
    simp [newRow, newObj, Sem.run]
   ·simp only [h0, if_false, Sem.run_bind, hzr, Result.andThen_ok, Sem.run_pure, h6]
    simp [newRow, newObj, Sem.run]
  have hal := hI.allocImm out.toList e
  rw [show (⟨out.toList⟩ : Array Value) = out by simp] at hal
  simp only [Sem.run_bind, hrun, Result.andThen_ok, Sem.run_pure]
  have hll : len ≤ len * sz := Nat.le_mul_of_pos_right _ hpos
  refine ⟨_, _, σ, hal.1, .lst (t := .clip) (us := out.toList) h9 (h7.mono hal.1) (fun i u hu => ?_) h8 (Nat.le_refl _) (by omega) rfl hlen, hal.2, hK⟩
  simp [Gh.add, hu]
 ·exact hK.elim
end
end Go.AL
