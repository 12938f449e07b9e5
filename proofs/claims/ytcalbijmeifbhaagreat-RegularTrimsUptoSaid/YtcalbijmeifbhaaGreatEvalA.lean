/- An evaluator over typed values: its operations. -/
import Derived.Test.YtcalbijmeifbhaaGreatCoreC
set_option linter.unusedVariables false
set_option linter.unusedSimpArgs false
namespace Go.AL
open Go.RowKit
set_option linter.unusedVariables false
set_option linter.unusedSectionVars false
set_option linter.unusedSimpArgs false
inductive Ty where
 | int (k : IntKind)
 | bool
 | str
 | lst (t : Ty)
 | nm (n : Nat)
 | pair (a b : Ty)
 deriving DecidableEq
class Uni where
 N : Nat → Type
 sz : Nat → Nat
 enc : (n : Nat) → N n → List AV
 one : ∀ n x, (enc n x).all AV.one = true
 len : ∀ n x, (enc n x).length = sz n
 bare : ∀ n x, (enc n x).map AV.bare1 = enc n x
section
variable [Uni]
abbrev El : Ty → Type
 | .int _ => Int
 | .bool => Bool
 | .str => ByteArray
 | .lst t => List (El t)
 | .nm n => Uni.N n
 | .pair a b => El a × El b
def szE : Ty → Nat
 | .nm n => Uni.sz n
 | _ => 1
def encE : (t : Ty) → El t → AV
 | .int k, n => .int k n
 | .bool, b => .bool b
 | .str, s => .str s
 | .lst t, l => .lst (szE t) (l.map (encE t)) .none
 | .nm n, x => .agg (Uni.enc n x)
 | .pair a b, x => .fn (.func 0) [encE a x.1] [encE b x.2]
abbrev ElT : List Ty → Type
 | [] => Unit
 | [t] => El t
 | t :: u :: ts => El t × ElT (u :: ts)
def encA : (t : Ty) → El t → AV
 | .pair a b, x => .tup [encE a x.1, encE b x.2]
 | t, x => encE t x
def unpk : AV → List AV
 | .tup xs => xs
 | x => [x]
theorem unpk_one {ys : List AV} (h : ∀ x ∈ ys, unpk x = [x]) {k : Nat} {x : AV} (hx : ys[k]? = some x) : unpk x = [x] := h x (List.mem_of_getElem? hx)
def encFl : (ts : List Ty) → ElT ts → List AV
 | [], _ => []
 | [t], x => (encE t x).cells
 | t :: u :: ts, x => (encE t x.1).cells ++ encFl (u :: ts) x.2
end
class Uni2 extends Uni where
 flds : Nat → List Ty
 mkN : (n : Nat) → ElT (flds n) → N n
 prjN : (n : Nat) → N n → ElT (flds n)
 encOK : ∀ n x, enc n x = encFl (flds n) (prjN n x)
 prjmk : ∀ n y, prjN n (mkN n y) = y
inductive VTok where
 | none
 | clip
 | own (id : Nat)
structure Wd where
 ρ : Nat → Nat
 tk : Nat → Tok
 ext : Nat → AV → Prop
 fr : AH
def TokR (w : Wd) (nx : Nat) : VTok → Tok → Prop
 | .none, _ => True
 | .clip, t => t = .clip
 | .own id, t => id < nx ∧ t = w.tk id
section
variable [Uni2]
inductive VV where
 | int (k : IntKind) (n : Int)
 | bool (b : Bool)
 | str (s : ByteArray)
 | el (n : Nat) (x : Uni.N n)
 | agg (xs : List VV)
 | lst (t : Ty) (l : List (El t)) (tk : VTok)
 | vls (sz : Nat) (xs : List VV) (tk : VTok)
 | pel (xs : List VV)
 | pw (t : Ty) (x : El t)
 | loc (h off : Nat)
 | nilm
 | mp (h : Nat)
 | fn (f : Nat) (fst cap : List VV)
 | nilp
 | nilf
 | ext (i : Nat)
 | iter (t : Ty) (xs : List (El t))
 | tup (xs : List VV)
 | cnd (gs : List (Nat × Bool)) (v : VV)
 | sl (sz h : Nat)
 | pe (sz h : Nat) (i : Int) (o : Nat)
 | pa (h o n : Nat) (i : Int)
 | any
structure Wd.le (nx : Nat) (w w' : Wd) : Prop where
 ρ : ∀ h, h < nx → w'.ρ h = w.ρ h
 tk : ∀ i, i < nx → w'.tk i = w.tk i
 ext : w'.ext = w.ext
 fr : w.fr.le w'.fr
theorem Wd.le_refl (nx : Nat) (w : Wd) : Wd.le nx w w := ⟨fun _ _ => rfl, fun _ _ => rfl, rfl, w.fr.le_refl⟩
theorem Wd.le_trans {nx nx' : Nat} {w w' w'' : Wd} (h : Wd.le nx w w') (k : Wd.le nx' w' w'') (hn : nx ≤ nx') : Wd.le nx w w'' :=
 ⟨fun x hx => (k.ρ x (by omega)).trans (h.ρ x hx), fun x hx => (k.tk x (by omega)).trans (h.tk x hx), k.ext.trans h.ext, AH.le_trans h.fr k.fr⟩
theorem TokR.mono {w w' : Wd} {nx nx' : Nat} (h : Wd.le nx w w') (hn : nx ≤ nx') {v : VTok} {t : Tok} (k : TokR w nx v t) : TokR w' nx' v t := by
 cases v with
 | none => trivial
 | clip => exact k
 | own id => exact ⟨Nat.lt_of_lt_of_le k.1 hn, by rw [k.2, h.tk _ k.1]⟩
def IterOK (P : Program) (W : World) (fz : AH) (a : AV) (ys : List AV) : Prop :=
 ∃ g first cap, a = .fn (.func g) first cap ∧ ∀ (J : Nat → AH → AH → Prop) (E : AH → AH → Prop) (y : AV) (σ : AH), (∃ fy ya yc, y = .fn fy ya yc) →
   (∀ k I τ, J k I τ → I.le τ) → (∀ k I τ I' τ', J k I τ → τ.le τ' → I.le I' → I'.le τ' → (∀ c, I' c ≠ none → I c = none → τ c = none) → J k I' τ') → (∀ k I τ I', J k I τ → I'.le I → J k I' τ) →
   (∀ I τ τ', E I τ → τ.le τ' → E I τ') → (∀ I τ I', E I τ → I'.le I → E I' τ) → J 0 fz σ →
   (∀ k x I τ, ys[k]? = some x → J k I τ → ACallV P W y (unpk x) τ fun v τ' => I.le τ' ∧ ((v = .bool true ∧ J (k + 1) I τ') ∨ (v = .bool false ∧ E I τ'))) →
   ACall P W g (first ++ [y] ++ cap) σ fun _ τ => J ys.length fz τ ∨ E fz τ
variable (P : Program) (W : World)
mutual
def VRel (w : Wd) (nx : Nat) : VV → AV → Prop
 | .int k n, a => a = .int k n
 | .bool b, a => a = .bool b
 | .str s, a => a = .str s
 | .el n x, a => ∃ as, a = .agg as ∧ as.map AV.bare1 = Uni.enc n x
 | .agg xs, a => ∃ as, a = .agg as ∧ VRelL w nx xs as
 | .lst t l tk, a => ∃ tok, a = .lst (szE t) (l.map (encE t)) tok ∧ TokR w nx tk tok
 | .vls sz xs tk, a => ∃ ys tok, a = .lst sz ys tok ∧ VRelB w nx xs ys ∧ TokR w nx tk tok
 | .pel xs, a => ∃ as, a = .elt as ∧ VRelL w nx xs as
 | .pw t x, a => ∃ as, a = .elt as ∧ as.map AV.bare1 = (encE t x).cells
 | .loc h off, a => h < nx ∧ a = .ptr (w.ρ h) off
 | .nilm, a => a = .map .none
 | .mp h, a => h < nx ∧ a = .map (some (w.ρ h))
 | .fn f fs cs, a => ∃ as bs, a = .fn (.func f) as bs ∧ VRelL w nx fs as ∧ VRelL w nx cs bs
 | .nilp, a => a = .nilp
 | .nilf, a => a = .nilf
 | .ext i, a => w.ext i a
 | .iter t xs, a => ∃ fz : AH, fz.le w.fr ∧ IterOK P W fz a (xs.map (encA t))
 | .tup xs, a => ∃ as, a = .tup as ∧ VRelL w nx xs as
 | .cnd _ _, _ => True
 | .sl sz h, a => h < nx ∧ ∃ n c, w.tk h = .own (w.ρ h) n c ∧ a = .slc sz (w.ρ h) 0 n c
 | .pe sz h i o, a => h < nx ∧ ∃ n c, w.tk h = .own (w.ρ h) n c ∧ 0 ≤ i ∧ i < n ∧ a = .ptr (w.ρ h) (i.toNat * sz + o)
 | .pa h o n i, a => h < nx ∧ 0 ≤ i ∧ i < n ∧ a = .ptr (w.ρ h) (o + i.toNat)
 | .any, _ => True
def VRelL (w : Wd) (nx : Nat) : List VV → List AV → Prop
 | [], as => as = []
 | x :: xs, as => ∃ a r, as = a :: r ∧ VRel w nx x a ∧ VRelL w nx xs r
def VRelB (w : Wd) (nx : Nat) : List VV → List AV → Prop
 | [], as => as = []
 | x :: xs, as => ∃ a r, as = a.bare :: r ∧ VRel w nx x a ∧ VRelB w nx xs r
end
section
variable {P : Program} {W : World} {w w' : Wd} {nx nx' : Nat}
mutual
theorem VRel.mono (h : Wd.le nx w w') (hn : nx ≤ nx') : ∀ (v : VV) {a : AV}, VRel P W w nx v a → VRel P W w' nx' v a
 | .int _ _, _, k | .bool _, _, k | .str _, _, k | .el _ _, _, k | .pw _ _, _, k | .nilm, _, k | .nilp, _, k | .nilf, _, k | .cnd _ _, _, k | .any, _, k => by simp only [VRel] at k ⊢ <;> exact k
 | .agg xs, _, k => by
   simp only [VRel] at k ⊢
   obtain ⟨as, rfl, k⟩ := k
   exact ⟨as, rfl, VRelL.mono h hn xs k⟩
 | .lst t l tk, _, k => by
   simp only [VRel] at k ⊢
   obtain ⟨tok, rfl, k⟩ := k
   exact ⟨tok, rfl, k.mono h hn⟩
 | .vls sz xs tk, _, k => by
   simp only [VRel] at k ⊢
   obtain ⟨ys, tok, rfl, k1, k2⟩ := k
   exact ⟨ys, tok, rfl, VRelB.mono h hn xs k1, k2.mono h hn⟩
 | .pel xs, _, k => by
   simp only [VRel] at k ⊢
   obtain ⟨as, rfl, k⟩ := k
   exact ⟨as, rfl, VRelL.mono h hn xs k⟩
 | .loc hd off, _, k => by
   simp only [VRel] at k ⊢
   exact ⟨by omega, by rw [k.2, h.ρ _ k.1]⟩
 | .mp hd, _, k => by
   simp only [VRel] at k ⊢
   exact ⟨by omega, by rw [k.2, h.ρ _ k.1]⟩
 | .sl sz hd, _, k => by
   simp only [VRel] at k ⊢
   rw [h.ρ _ k.1, h.tk _ k.1]
   exact ⟨by omega, k.2⟩
 | .pa hd o n i, _, k => by
   simp only [VRel] at k ⊢
   rw [h.ρ _ k.1]
   exact ⟨by omega, k.2⟩
 | .pe sz hd i o, _, k => by
   simp only [VRel] at k ⊢
   rw [h.ρ _ k.1, h.tk _ k.1]
   exact ⟨by omega, k.2⟩
 | .fn f fs cs, _, k => by
   simp only [VRel] at k ⊢
   obtain ⟨as, bs, rfl, k1, k2⟩ := k
   exact ⟨as, bs, rfl, VRelL.mono h hn fs k1, VRelL.mono h hn cs k2⟩
 | .ext i, _, k => by simp only [VRel] at k ⊢; rw [h.ext]; exact k
 | .iter t xs, _, k => by
   simp only [VRel] at k ⊢
   obtain ⟨fz, k1, k2⟩ := k
   exact ⟨fz, AH.le_trans k1 h.fr, k2⟩
 | .tup xs, _, k => by
   simp only [VRel] at k ⊢
   obtain ⟨as, rfl, k⟩ := k
   exact ⟨as, rfl, VRelL.mono h hn xs k⟩
theorem VRelL.mono (h : Wd.le nx w w') (hn : nx ≤ nx') : ∀ (v : List VV) {a : List AV}, VRelL P W w nx v a → VRelL P W w' nx' v a
 | [], _, k => by simp only [VRelL] at k ⊢; exact k
 | x :: xs, _, k => by
   simp only [VRelL] at k ⊢
   obtain ⟨a, r, rfl, k1, k2⟩ := k
   exact ⟨a, r, rfl, VRel.mono h hn x k1, VRelL.mono h hn xs k2⟩
theorem VRelB.mono (h : Wd.le nx w w') (hn : nx ≤ nx') : ∀ (v : List VV) {a : List AV}, VRelB P W w nx v a → VRelB P W w' nx' v a
 | [], _, k => by simp only [VRelB] at k ⊢; exact k
 | x :: xs, _, k => by
   simp only [VRelB] at k ⊢
   obtain ⟨a, r, rfl, k1, k2⟩ := k
   exact ⟨a, r, rfl, VRel.mono h hn x k1, VRelB.mono h hn xs k2⟩
end
end
end
end Go.AL
namespace Go.AL
open Go.RowKit
set_option linter.unusedVariables false
set_option linter.unusedSimpArgs false
set_option linter.unusedSectionVars false
section
variable [Uni2]
def optAll {α β : Type} (f : α → Option β) : List α → Option (List β)
 | [] => some []
 | x :: xs => match f x with
   | some y => match optAll f xs with
     | some ys => some (y :: ys)
     | none => none
   | none => none
def oneFl (f : (t : Ty) → VV → Option (El t)) : (t : Ty) → List VV → Option (El t)
 | .nm n, xs => f (.nm n) (.agg xs)
 | .int k, [v] => f (.int k) v
 | .bool, [v] => f .bool v
 | .str, [v] => f .str v
 | .lst t, [v] => f (.lst t) v
 | _, _ => none
def splitFl (f : (t : Ty) → VV → Option (El t)) : (ts : List Ty) → List VV → Option (ElT ts)
 | [], [] => some ()
 | [], _ :: _ => none
 | [t], xs => oneFl f t xs
 | t :: u :: ts, xs => match oneFl f t (xs.take (szE t)) with
   | some x => match splitFl f (u :: ts) (xs.drop (szE t)) with
     | some r => some (x, r)
     | none => none
   | none => none
def asF : Nat → (t : Ty) → VV → Option (El t)
 | _, .int k, .int k' n => if k = k' then some n else none
 | _, .bool, .bool b => some b
 | _, .str, .str s => some s
 | _, .lst t, .lst t' l _ => if h : t' = t then some (h ▸ l) else none
 | d + 1, .lst t, .vls sz xs _ => if sz = szE t then optAll (asF d t) xs else none
 | _, .nm n, .el n' x => if h : n' = n then some (h ▸ x) else none
 | d + 1, .nm n, .agg xs => match splitFl (asF d) (Uni2.flds n) xs with
   | some y => some (Uni2.mkN n y)
   | none => none
 | _, _, _ => none
def cellsFl (f : (t : Ty) → El t → List VV) : (ts : List Ty) → ElT ts → List VV
 | [], _ => []
 | [t], x => f t x
 | t :: u :: ts, x => f t x.1 ++ cellsFl f (u :: ts) x.2
def cellsF : Nat → (t : Ty) → El t → List VV
 | _, .int k, n => [.int k n]
 | _, .bool, b => [.bool b]
 | _, .str, s => [.str s]
 | _, .lst t, l => [.lst t l .none]
 | d + 1, .nm n, x => cellsFl (cellsF d) (Uni2.flds n) (Uni2.prjN n x)
 | 0, .nm n, _ => List.replicate (Uni.sz n) .any
 | _, .pair _ _, _ => [.any]
def toVV : (t : Ty) → El t → VV
 | .int k, n => .int k n
 | .bool, b => .bool b
 | .str, s => .str s
 | .lst t, l => .lst t l .none
 | .nm n, x => .el n x
 | .pair _ _, _ => .any
def ofAV1 : AV → VV
 | .int k n => .int k n
 | .bool b => .bool b
 | .str s => .str s
 | .lst sz [] .clip => .vls sz [] .clip
 | .nilp => .nilp
 | .nilf => .nilf
 | .map none => .nilm
 | .fn (.func f) [] [] => .fn f [] []
 | _ => .any
def ofAV : AV → VV
 | .agg xs => .agg (xs.map ofAV1)
 | x => ofAV1 x
def ofAVs (xs : List AV) : List VV := xs.map ofAV1
def VV.okc : VV → Bool
 | .int .. | .bool _ | .str _ | .lst .. | .vls .. | .pel _ | .pw .. | .loc .. | .mp _ | .nilm | .fn .. | .nilp | .nilf | .iter .. | .sl .. | .pe .. | .pa .. => true
 | _ => false
def cellsV : VV → List VV
 | .el n x => cellsF 8 (.nm n) x
 | .agg xs => xs
 | v => [v]
variable {P : Program} {W : World} {w : Wd} {nx : Nat}
theorem bare1_eq {a b : AV} (h : a.bare1 = b) (hb : ∀ sz xs t, b ≠ .lst sz xs t) : a = b := by
 cases a with
 | lst sz xs t => exact absurd h.symm (hb _ _ _)
 | _ => exact h
theorem bare1_lst {a : AV} {sz : Nat} {xs : List AV} {t : Tok} (h : a.bare1 = .lst sz xs t) : ∃ t', a = .lst sz xs t' := by
 cases a <;> simp_all [AV.bare1]
theorem bare_eq1 {a : AV} (h : ∀ xs, a.bare ≠ .agg xs) : a.bare1 = a.bare := by
 cases a <;> simp_all [AV.bare, AV.bare1]
theorem map_one {as : List AV} {b : AV} (h : as.map AV.bare1 = [b]) : ∃ a, as = [a] ∧ a.bare1 = b := by
 cases as with
 | nil => simp at h
 | cons a r =>
   cases r with
   | nil => exact ⟨a, rfl, by simpa using h⟩
   | cons _ _ => simp at h
theorem VRelL.length : ∀ {xs : List VV} {as : List AV}, VRelL P W w nx xs as → as.length = xs.length
 | [], as, h => by simp only [VRelL] at h; subst h; rfl
 | x :: xs, as, h => by
   simp only [VRelL] at h
   obtain ⟨a, r, rfl, _, h⟩ := h
   simp [VRelL.length h]
theorem VRelL.append : ∀ {xs ys : List VV} {as bs : List AV}, VRelL P W w nx xs as → VRelL P W w nx ys bs → VRelL P W w nx (xs ++ ys) (as ++ bs)
 | [], ys, as, bs, h, k => by simp only [VRelL] at h; subst h; exact k
 | x :: xs, ys, as, bs, h, k => by
   simp only [VRelL] at h
   obtain ⟨a, r, rfl, h1, h⟩ := h
   simp only [List.cons_append, VRelL]
   exact ⟨a, r ++ bs, rfl, h1, VRelL.append h k⟩
theorem VRelL.drop : ∀ (n : Nat) {xs : List VV} {as : List AV}, VRelL P W w nx xs as → VRelL P W w nx (xs.drop n) (as.drop n)
 | 0, _, _, h => h
 | n + 1, [], as, h => by simp only [VRelL] at h; subst h; simp [VRelL]
 | n + 1, x :: xs, as, h => by
   simp only [VRelL] at h
   obtain ⟨a, r, rfl, _, h⟩ := h
   exact VRelL.drop n h
theorem VRelL.take : ∀ (n : Nat) {xs : List VV} {as : List AV}, VRelL P W w nx xs as → VRelL P W w nx (xs.take n) (as.take n)
 | 0, _, _, _ => by simp [VRelL]
 | n + 1, [], as, h => by simp only [VRelL] at h; subst h; simp [VRelL]
 | n + 1, x :: xs, as, h => by
   simp only [VRelL] at h
   obtain ⟨a, r, rfl, h1, h⟩ := h
   simp only [List.take_succ_cons, VRelL]
   exact ⟨a, _, rfl, h1, VRelL.take n h⟩
theorem VRelL.set : ∀ (n : Nat) {xs : List VV} {as : List AV} {v : VV} {a : AV}, VRelL P W w nx xs as → VRel P W w nx v a → VRelL P W w nx (xs.set n v) (as.set n a)
 | _, [], as, _, _, h, _ => by simp only [VRelL] at h; subst h; simp [VRelL]
 | 0, x :: xs, as, v, a, h, k => by
   simp only [VRelL] at h
   obtain ⟨b, r, rfl, h1, h⟩ := h
   simp only [List.set_cons_zero, VRelL]
   exact ⟨a, r, rfl, k, h⟩
 | n + 1, x :: xs, as, v, a, h, k => by
   simp only [VRelL] at h
   obtain ⟨b, r, rfl, h1, h⟩ := h
   simp only [List.set_cons_succ, VRelL]
   exact ⟨b, _, rfl, h1, VRelL.set n h k⟩
theorem VRelL.get : ∀ (n : Nat) {xs : List VV} {as : List AV} {v : VV}, VRelL P W w nx xs as → xs[n]? = some v → ∃ a, as[n]? = some a ∧ VRel P W w nx v a
 | _, [], _, _, _, h => by simp at h
 | 0, x :: xs, as, v, h, k => by
   simp only [VRelL] at h
   obtain ⟨b, r, rfl, h1, h⟩ := h
   simp only [List.getElem?_cons_zero, Option.some.injEq] at k
   subst k
   exact ⟨b, rfl, h1⟩
 | n + 1, x :: xs, as, v, h, k => by
   simp only [VRelL] at h
   obtain ⟨b, r, rfl, h1, h⟩ := h
   simpa using VRelL.get n h (by simpa using k)
theorem toVV_rel {t : Ty} {x : El t} {a : AV} (h : a.bare = encE t x) : VRel P W w nx (toVV t x) a := by
 cases t with
 | int k => simp only [encE] at h; simp only [toVV, VRel]; cases a <;> simp_all [AV.bare]
 | bool => simp only [encE] at h; simp only [toVV, VRel]; cases a <;> simp_all [AV.bare]
 | str => simp only [encE] at h; simp only [toVV, VRel]; cases a <;> simp_all [AV.bare]
 | lst t =>
   simp only [encE] at h; simp only [toVV, VRel]
   cases a <;> simp_all [AV.bare, TokR]
 | nm n =>
   simp only [encE] at h; simp only [toVV, VRel]
   cases a <;> simp_all [AV.bare]
 | pair t u => simp only [toVV, VRel]
theorem cellsFl_rel {f : (t : Ty) → El t → List VV} (hf : ∀ t x as, as.map AV.bare1 = (encE t x).cells → VRelL P W w nx (f t x) as) : ∀ (ts : List Ty) (x : ElT ts) (as : List AV), as.map AV.bare1 = encFl ts x → VRelL P W w nx (cellsFl f ts x) as
 | [], _, as, h => by simp only [encFl, List.map_eq_nil_iff] at h; subst h; simp [cellsFl, VRelL]
 | [t], x, as, h => hf t x as h
 | t :: u :: ts, x, as, h => by
   simp only [encFl, List.map_eq_append_iff] at h
   obtain ⟨l₁, l₂, rfl, h1, h2⟩ := h
   exact (hf t x.1 l₁ h1).append (cellsFl_rel hf (u :: ts) x.2 l₂ h2)
theorem VRelL_any : ∀ (n : Nat) (as : List AV), as.length = n → VRelL P W w nx (List.replicate n .any) as
 | 0, as, h => by simp only [List.length_eq_zero_iff] at h; subst h; simp [VRelL]
 | n + 1, [], h => by simp at h
 | n + 1, a :: as, h => by
   simp only [List.replicate_succ, VRelL]
   exact ⟨a, as, rfl, by simp [VRel], VRelL_any n as (by simpa using h)⟩
theorem cellsF_rel : ∀ (d : Nat) (t : Ty) (x : El t) (as : List AV), as.map AV.bare1 = (encE t x).cells → VRelL P W w nx (cellsF d t x) as
 | d, .int k, n, as, h => by
   obtain ⟨a, rfl, h1⟩ := map_one (by simpa [encE, AV.cells] using h)
   have := bare1_eq h1 (by simp)
   subst this; cases d <;> simp [cellsF, VRelL, VRel]
 | d, .bool, n, as, h => by
   obtain ⟨a, rfl, h1⟩ := map_one (by simpa [encE, AV.cells] using h)
   have := bare1_eq h1 (by simp)
   subst this; cases d <;> simp [cellsF, VRelL, VRel]
 | d, .str, n, as, h => by
   obtain ⟨a, rfl, h1⟩ := map_one (by simpa [encE, AV.cells] using h)
   have := bare1_eq h1 (by simp)
   subst this; cases d <;> simp [cellsF, VRelL, VRel]
 | d, .lst t, l, as, h => by
   obtain ⟨a, rfl, h1⟩ := map_one (by simpa [encE, AV.cells] using h)
   obtain ⟨t', rfl⟩ := bare1_lst h1
   cases d <;> simp [cellsF, VRelL, VRel, TokR]
 | d + 1, .nm n, x, as, h => by
   simp only [encE, AV.cells, Uni2.encOK] at h
   exact cellsFl_rel (fun t x as h => cellsF_rel d t x as h) _ _ _ h
 | 0, .nm n, x, as, h => by
   simp only [encE, AV.cells] at h
   refine VRelL_any _ _ ?_
   rw [← List.length_map (f := AV.bare1), h, Uni.len]
 | d, .pair t u, x, as, h => by
   obtain ⟨a, rfl, h1⟩ := map_one (by simpa [encE, AV.cells] using h)
   cases d <;> simp [cellsF, VRelL, VRel]
theorem encE_not_agg {t : Ty} (ht : ∀ n, t ≠ .nm n) (x : El t) : ∀ xs, encE t x ≠ .agg xs := by
 intro xs
 cases t <;> simp_all [encE]
theorem encE_cells {t : Ty} (ht : ∀ n, t ≠ .nm n) (x : El t) : (encE t x).cells = [encE t x] := by
 cases t <;> simp_all [encE, AV.cells]
theorem oneFl_rel {f : (t : Ty) → VV → Option (El t)} (hf : ∀ t v x a, f t v = some x → VRel P W w nx v a → a.bare = encE t x) {t : Ty} {xs : List VV} {x : El t} {as : List AV} (h : oneFl f t xs = some x) (hr : VRelL P W w nx xs as) :
  as.map AV.bare1 = (encE t x).cells := by
 have one : ∀ (t : Ty) (ht : ∀ n, t ≠ .nm n) (v : VV) (x : El t), f t v = some x → VRelL P W w nx [v] as → as.map AV.bare1 = (encE t x).cells := by
  intro t ht v x h hr
  simp only [VRelL] at hr
  obtain ⟨a, _, rfl, hv, rfl⟩ := hr
  have hb := hf _ _ _ _ h hv
  rw [encE_cells ht, List.map_cons, List.map_nil, ← hb, bare_eq1]
  intro xs hx
  rw [hb] at hx
  exact encE_not_agg ht x xs hx
 cases t with
 | nm n =>
   have := hf (.nm n) (.agg xs) x (.agg as) h (by simp only [VRel]; exact ⟨as, rfl, hr⟩)
   simpa [AV.bare, encE, AV.cells] using this
 | pair t u => simp [oneFl] at h
 | _ =>
   cases xs with
   | nil => cases h
   | cons v r =>
     cases r with
     | cons _ _ => cases h
     | nil => exact one _ (by simp) v x h hr
theorem splitFl_rel {f : (t : Ty) → VV → Option (El t)} (hf : ∀ t v x a, f t v = some x → VRel P W w nx v a → a.bare = encE t x) : ∀ (ts : List Ty) (xs : List VV) (y : ElT ts) (as : List AV), splitFl f ts xs = some y → VRelL P W w nx xs as →
  as.map AV.bare1 = encFl ts y
 | [], [], _, as, h, hr => by simp only [VRelL] at hr; subst hr; rfl
 | [], _ :: _, _, as, h, hr => by cases h
 | [t], xs, y, as, h, hr => oneFl_rel hf h hr
 | t :: u :: ts, xs, y, as, h, hr => by
   simp only [splitFl] at h
   split at h
   ·rename_i x hx
    split at h
    ·rename_i r hrr
     cases h
     have h1 := oneFl_rel hf hx (hr.take (szE t))
     have h2 := splitFl_rel hf (u :: ts) _ r _ hrr (hr.drop (szE t))
     simp only [encFl, ← h1, ← h2, ← List.map_append, List.take_append_drop]
    ·cases h
   ·cases h
theorem optAll_rel {t : Ty} {f : VV → Option (El t)} (hf : ∀ v x a, f v = some x → VRel P W w nx v a → a.bare = encE t x) : ∀ (xs : List VV) (l : List (El t)) (as : List AV), optAll f xs = some l → VRelB P W w nx xs as → as = l.map (encE t)
 | [], l, as, h, hr => by cases h; simp only [VRelB] at hr; subst hr; rfl
 | x :: xs, l, as, h, hr => by
   simp only [optAll] at h
   split at h
   ·rename_i y hy
    split at h
    ·rename_i ys hys
     cases h
     simp only [VRelB] at hr
     obtain ⟨a, r, rfl, h1, h2⟩ := hr
     rw [List.map_cons, ← hf _ _ _ hy h1, optAll_rel hf xs ys r hys h2]
    ·cases h
   ·cases h
theorem asF_rel : ∀ (d : Nat) (t : Ty) (v : VV) (x : El t) (a : AV), asF d t v = some x → VRel P W w nx v a → a.bare = encE t x := by
 intro d
 induction d with
 | zero =>
   intro t v x a h hv
   cases t <;> cases v <;> simp only [asF, reduceCtorEq] at h <;> simp only [VRel] at hv
   case int.int => split at h
                   ·rename_i hk; cases h; subst hk; subst hv; rfl
                   ·cases h
   case bool.bool => cases h; subst hv; rfl
   case str.str => cases h; subst hv; rfl
   case lst.lst =>
    split at h
    ·rename_i ht; subst ht; cases h
     obtain ⟨tok, rfl, _⟩ := hv
     rfl
    ·cases h
   case nm.el =>
    split at h
    ·rename_i ht; subst ht; cases h
     obtain ⟨as, rfl, hv⟩ := hv
     simp [AV.bare, encE, hv]
    ·cases h
 | succ d ih =>
   intro t v x a h hv
   cases t <;> cases v <;> simp only [asF, reduceCtorEq] at h <;> simp only [VRel] at hv
   case int.int => split at h
                   ·rename_i hk; cases h; subst hk; subst hv; rfl
                   ·cases h
   case bool.bool => cases h; subst hv; rfl
   case str.str => cases h; subst hv; rfl
   case lst.lst =>
    split at h
    ·rename_i ht; subst ht; cases h
     obtain ⟨tok, rfl, _⟩ := hv
     rfl
    ·cases h
   case nm.el =>
    split at h
    ·rename_i ht; subst ht; cases h
     obtain ⟨as, rfl, hv⟩ := hv
     simp [AV.bare, encE, hv]
    ·cases h
   case lst.vls =>
    split at h
    ·rename_i hs
     obtain ⟨ys, tok, rfl, h1, _⟩ := hv
     have := optAll_rel (fun v x a h1 h2 => ih _ v x a h1 h2) _ _ _ h h1
     subst this; subst hs; rfl
    ·cases h
   case nm.agg =>
    split at h
    ·rename_i y hy
     cases h
     obtain ⟨as, rfl, h1⟩ := hv
     have := splitFl_rel (fun t v x a h1 h2 => ih t v x a h1 h2) _ _ _ _ hy h1
     simp only [AV.bare, encE, this, Uni2.encOK, Uni2.prjmk]
    ·cases h
theorem ofAV1_rel (a : AV) : VRel P W w nx (ofAV1 a) a := by
 unfold ofAV1
 split <;> simp [VRel, VRelB, VRelL, TokR]
theorem ofAVs_rel : ∀ (as : List AV), VRelL P W w nx (ofAVs as) as
 | [] => by simp [ofAVs, VRelL]
 | a :: as => by
   have ih := ofAVs_rel as
   simp only [ofAVs, List.map_cons, VRelL] at ih ⊢
   exact ⟨a, as, rfl, ofAV1_rel a, ih⟩
theorem ofAV_rel (a : AV) : VRel P W w nx (ofAV a) a := by
 unfold ofAV
 split
 ·rename_i xs; simp only [VRel]; exact ⟨xs, rfl, ofAVs_rel xs⟩
 ·exact ofAV1_rel _
theorem okc_one {v : VV} {a : AV} (h : v.okc = true) (hv : VRel P W w nx v a) : a.one = true := by
 cases v <;> (first | (simp only [VV.okc, Bool.false_eq_true] at h; done) | skip) <;> (try simp only [VRel] at hv)
 case int => subst hv; rfl
 case bool => subst hv; rfl
 case str => subst hv; rfl
 case lst => obtain ⟨_, rfl, _⟩ := hv; rfl
 case vls => obtain ⟨_, _, rfl, _⟩ := hv; rfl
 case pel => obtain ⟨_, rfl, _⟩ := hv; rfl
 case pw => obtain ⟨_, rfl, _⟩ := hv; rfl
 case loc => rw [hv.2]; rfl
 case nilm => subst hv; rfl
 case mp => rw [hv.2]; rfl
 case fn => obtain ⟨_, _, rfl, _⟩ := hv; rfl
 case nilp => subst hv; rfl
 case nilf => subst hv; rfl
 case iter => obtain ⟨fz, _, g, first, cap, rfl, _⟩ := hv; rfl
 case sl => obtain ⟨_, _, _, _, rfl⟩ := hv; rfl
 case pa => obtain ⟨_, _, _, rfl⟩ := hv; rfl
 case pe => obtain ⟨_, _, _, _, _, _, rfl⟩ := hv; rfl
theorem okcL_one : ∀ {xs : List VV} {as : List AV}, xs.all VV.okc = true → VRelL P W w nx xs as → as.all AV.one = true
 | [], as, _, hr => by simp only [VRelL] at hr; subst hr; rfl
 | x :: xs, as, h, hr => by
   simp only [VRelL] at hr
   obtain ⟨a, r, rfl, h1, h2⟩ := hr
   simp only [List.all_cons, Bool.and_eq_true] at h ⊢
   exact ⟨okc_one h.1 h1, okcL_one h.2 h2⟩
theorem cells_one {a : AV} (h : a.one = true) : a.cells = [a] := by cases a <;> first | rfl | cases h
theorem cellsV_rel {v : VV} {a : AV} (h : (cellsV v).all VV.okc = true) (hv : VRel P W w nx v a) : VRelL P W w nx (cellsV v) a.cells ∧ a.ok = true := by
 have single : v.okc = true → cellsV v = [v] → VRelL P W w nx (cellsV v) a.cells ∧ a.ok = true := fun h1 h2 => by
  have h3 := okc_one h1 hv
  rw [h2, cells_one h3]
  simp only [VRelL, AV.ok, cells_one h3, List.all_cons, h3, List.all_nil, Bool.and_true]
  exact ⟨⟨a, [], rfl, hv, rfl⟩, trivial⟩
 cases v with
 | el n x =>
   simp only [VRel] at hv
   obtain ⟨as, rfl, hv⟩ := hv
   refine ⟨cellsF_rel 8 (.nm n) x as (by simpa [encE, AV.cells] using hv), ?_⟩
   simp only [AV.ok, AV.cells]
   have := Uni.one n x
   rw [← hv, all_one_bare1] at this
   exact this
 | agg xs =>
   simp only [VRel] at hv
   obtain ⟨as, rfl, hv⟩ := hv
   exact ⟨hv, okcL_one h hv⟩
 | _ => exact single (by simpa [cellsV] using h) rfl
end
end Go.AL
namespace Go.AL
open Go.RowKit
set_option linter.unusedVariables false
set_option linter.unusedSimpArgs false
set_option linter.unusedSectionVars false
class Uni3 extends Uni2 where
 dfl : (n : Nat) → N n
section
variable [Uni3]
def dflE : (t : Ty) → El t
 | .int _ => 0
 | .bool => false
 | .str => ⟨#[]⟩
 | .lst _ => []
 | .nm n => Uni3.dfl n
 | .pair a b => (dflE a, dflE b)
def nth {α : Type} (d : α) (l : List α) (i : Int) : α := l.getD i.toNat d
def ifB (e : Bool) (A B : Prop) : Prop := match e with
 | true => A
 | false => B
def inR : IntKind → Int → Prop
 | .i64, x => -9223372036854775808 ≤ x ∧ x < 9223372036854775808
 | .u8, x => 0 ≤ x ∧ x < 256
 | k, x => k.wrap x = x
inductive OK where
 | plain
 | map
 | sit
 | arr
 deriving DecidableEq
inductive LObj where
 | ob (k : OK) (vs : List VV)
abbrev LObj.cells (vs : List VV) : LObj := .ob .plain vs
structure St where
 env : List (Nat × VV)
 hp : List (Nat × LObj)
 live : List Nat
 nx : Nat
def lk : List (Nat × VV) → Nat → VV
 | [], _ => .any
 | (a, x) :: l, t => if a = t then x else lk l t
def pt : List (Nat × VV) → Nat → VV → List (Nat × VV)
 | [], t, v => [(t, v)]
 | (a, x) :: l, t, v => if a = t then (a, v) :: l else (a, x) :: pt l t v
def hlk : List (Nat × LObj) → Nat → Option LObj
 | [], _ => none
 | (a, x) :: l, t => if a = t then some x else hlk l t
def hpt : List (Nat × LObj) → Nat → LObj → List (Nat × LObj)
 | [], t, v => [(t, v)]
 | (a, x) :: l, t, v => if a = t then (a, v) :: l else (a, x) :: hpt l t v
def gmem (g : Nat × Bool) (gs : List (Nat × Bool)) : Bool := gs.any fun h => h.1 == g.1 && h.2 == g.2
def gsub (gs hs : List (Nat × Bool)) : Bool := gs.all fun g => gmem g hs
def clean (d : Nat) : List (Nat × VV) → List (Nat × VV)
 | [] => []
 | (a, .cnd gs v) :: l => if gs.any (fun g => g.1 == d) then (a, .any) :: clean d l else (a, .cnd gs v) :: clean d l
 | p :: l => p :: clean d l
def nocnd : VV → VV
 | .cnd _ _ => .any
 | v => v
def put (env : List (Nat × VV)) : Option Nat → VV → List (Nat × VV)
 | none, _ => env
 | some d, v => pt (clean d env) d (nocnd v)
def putC (env : List (Nat × VV)) (d : Option Nat) (gs : List (Nat × Bool)) (v : VV) : List (Nat × VV) :=
 match d with
 | none => env
 | some d => if gs.any (fun g => g.1 == d) then pt (clean d env) d .any else pt (clean d env) d (.cnd gs v)
def evX (env : List (Nat × VV)) (gs : List (Nat × Bool)) : AX → VV
 | .c v => ofAV v
 | .t n => match lk env n with
   | .cnd hs v => if gsub hs gs then v else .any
   | v => v
structure PV where
 c : Option Prop
 h : Option Prop
 v : VV
def arV (k k' : IntKind) (x : Int) : Option PV := if k = k' then some ⟨some (inR k x), none, .int k x⟩ else none
def cmpV (k k' : IntKind) (b : Bool) : Option PV := if k = k' then some ⟨none, none, .bool b⟩ else none
def binV (op : BinOp) : VV → VV → Option PV
 | .int k a, .int k' b => match op with
   | .add => arV k k' (a + b)
   | .sub => arV k k' (a - b)
   | .mul => arV k k' (a * b)
   | .quo => if k = k' then some ⟨some (b ≠ 0 ∧ inR k (a.tdiv b)), none, .int k (a.tdiv b)⟩ else none
   | .rem => if k = k' then some ⟨some (b ≠ 0), none, .int k (a.tmod b)⟩ else none
   | .eql => cmpV k k' (decide (a = b))
   | .neq => cmpV k k' (!decide (a = b))
   | .lss => cmpV k k' (decide (a < b))
   | .leq => cmpV k k' (decide (a ≤ b))
   | .gtr => cmpV k k' (decide (b < a))
   | .geq => cmpV k k' (decide (b ≤ a))
   | .and => if k = k' then some ⟨none, none, .int k (Go.bits .and k a b)⟩ else none
   | .or => if k = k' then some ⟨none, none, .int k (Go.bits .or k a b)⟩ else none
   | .shl => some ⟨some (0 ≤ b), none, .int k (k.wrap (a * 2 ^ min b.toNat k.bits))⟩
   | .shr => some ⟨some (0 ≤ b), none, .int k (a.fdiv (2 ^ min b.toNat k.bits))⟩
   | _ => none
 | .str a, .str b => match op with
   | .add => some ⟨some (a.size + b.size < 9223372036854775808), none, .str (a ++ b)⟩
   | .eql => some ⟨none, none, .bool (decide (a = b))⟩
   | .neq => some ⟨none, none, .bool (!decide (a = b))⟩
   | .lss => some ⟨none, none, .bool (Op.bytesLess a.toList b.toList)⟩
   | .gtr => some ⟨none, none, .bool (!(Op.bytesLess a.toList b.toList || decide (a = b)))⟩
   | .geq => some ⟨none, none, .bool (!(Op.bytesLess a.toList b.toList))⟩
   | .leq => some ⟨none, none, .bool (Op.bytesLess a.toList b.toList || decide (a = b))⟩
   | _ => none
 | _, _ => none
def val (v : VV) : Option PV := some ⟨none, none, v⟩
def optV : Option VV → Option PV
 | some v => some ⟨none, none, v⟩
 | none => none
def deref (hp : List (Nat × LObj)) : VV → Option (List VV)
 | .pel xs => some xs
 | .pw t x => some (cellsF 8 t x)
 | .loc h o => match hlk hp h with
   | some (.ob .plain vs) => some (vs.drop o)
   | _ => none
 | _ => none
def aggV : VV → Option (List VV)
 | .agg xs => some xs
 | .el n x => some (cellsF 8 (.nm n) x)
 | _ => none
def arrV (hp : List (Nat × LObj)) (sz h : Nat) : Option VV :=
 match hlk hp h with
 | some (.ob k [.lst t l tk, .sl sz' h']) => if k = .arr ∧ h' = h ∧ sz' = sz ∧ szE t = sz then some (.lst t l .none) else none
 | _ => none
def wholeE : (t : Ty) → El t → Option VV
 | .nm m, e => some (.el m e)
 | _, _ => none
def peV (g : Bool) (n sz o : Nat) (t : Ty) (e : El t) : Option PV :=
 match g with
 | true => if o = 0 ∧ n = sz ∧ 0 < n then (match wholeE t e with
   | some v => some ⟨none, none, v⟩
   | none => none) else if 0 < n ∧ n ≤ ((cellsF 8 t e).drop o).length ∧ (((cellsF 8 t e).drop o).take n).all VV.okc = true then some ⟨none, none, .agg (((cellsF 8 t e).drop o).take n)⟩ else none
 | false => match (cellsF 8 t e).drop o with
   | v :: _ => some ⟨none, none, v⟩
   | [] => none
def wholeV (n : Nat) : VV → Option VV
 | .pw (.nm m) x => if n = Uni.sz m then some (.el m x) else none
 | _ => none
def putPs : List VV → List (Nat × Nat × VV) → Option (List VV)
 | cs, [] => some cs
 | cs, (off, n, x) :: r => if (cellsV x).length = n ∧ off + n ≤ cs.length ∧ (cellsV x).all VV.okc = true then putPs (setAt cs off (cellsV x)) r else none
def elemOk (sz : Nat) (x : VV) : Bool := (cellsV x).length == sz && (cellsV x).all VV.okc
def putEs (sz : Nat) : List VV → List (Nat × VV) → Option (List VV)
 | cs, [] => some cs
 | cs, (i, x) :: r => if elemOk sz x = true ∧ i < cs.length then putEs sz (cs.set i x) r else none
def bndV (d : Int) : Option VV → Option Int
 | none => some d
 | some (.int _ n) => some n
 | _ => none
def slcV {α : Type} (l : List α) (lo hi : Option VV) : Option (Prop × List α) :=
 match lo, hi with
 | none, none => some (True, l)
 | some (.int _ a), none => some ((0 ≤ a ∧ a ≤ l.length), l.drop a.toNat)
 | none, some (.int _ b) => some ((0 ≤ b ∧ b ≤ l.length), l.take b.toNat)
 | some (.int _ a), some (.int _ b) => some ((0 ≤ a ∧ a ≤ b ∧ b ≤ l.length), (l.take b.toNat).drop a.toNat)
 | _, _ => none
def alook {α β : Type} [DecidableEq α] : List (α × β) → α → Option β
 | [], _ => none
 | (a, b) :: l, k => if k = a then some b else alook l k
def aset {α β : Type} [DecidableEq α] : List (α × β) → α → β → List (α × β)
 | [], k, v => [(k, v)]
 | (a, b) :: l, k, v => if k = a then (a, v) :: l else (a, b) :: aset l k v
def kOk : Ty → Bool → Bool
 | .str, g => g
 | .int _, g => !g
 | _, _ => false
def lookT : (t u : Ty) → List (El t × El u) → El t → Option (Option (El u))
 | .str, u, es, k => some (alook (α := ByteArray) es k)
 | .int _, u, es, k => some (alook (α := Int) es k)
 | _, _, _, _ => none
def asetT : (t u : Ty) → List (El t × El u) → El t → El u → Option (List (El t × El u))
 | .str, u, es, k, v => some (aset (α := ByteArray) es k v)
 | .int _, u, es, k, v => some (aset (α := Int) es k v)
 | _, _, _, _, _ => none
def tyOfV : VV → Option Ty
 | .int k _ => some (.int k)
 | .bool _ => some .bool
 | .str _ => some .str
 | .el n _ => some (.nm n)
 | .lst t _ _ => some (.lst t)
 | _ => none
def tyOfE : VV → Option Ty
 | .vls _ (x :: _) _ => (tyOfV x).map .lst
 | .agg xs => if xs.length = 3 then some (.nm 0) else if xs.length = 8 then some (.nm 6) else none
 | v => tyOfV v
def mapC (hp : List (Nat × LObj)) : VV → Option VV
 | .mp h => match hlk hp h with
   | some (.ob k vs) => if k = .map then vs.head? else none
   | none => none
 | .nilm => some (.vls 1 [] .none)
 | _ => none
def colV (i : Int) : List VV → Option VV
 | [] => none
 | v :: r => match tyOfV v with
   | some t => match optAll (asF 8 t) (v :: r) with
     | some l => some (toVV t (nth (dflE t) l i))
     | none => none
   | none => none
def colsV (i : Int) (n sz : Nat) (vs : List VV) : Nat → Option (List VV)
 | 0 => some []
 | j + 1 => match colsV i n sz vs j, colV i ((List.range n).map fun k => vs.getD (k * sz + j) .any) with
   | some l, some v => some (l ++ [v])
   | _, _ => none
def selE (i : Int) (j : Nat) : Nat → (Nat → Prop) → Prop
 | 0, _ => True
 | m + 1, F => (i = j → F j) ∧ selE i (j + 1) m F
def intsV : List VV → Option (IntKind × List Int)
 | [] => none
 | .int k x :: r => match optAll (asF 8 (.int k)) (.int k x :: r) with
   | some l => some (k, l)
   | none => none
 | _ => none
def opV (hd : Bool) (hp : List (Nat × LObj)) (env : List (Nat × VV)) (gs : List (Nat × Bool)) : AOp → Option PV
 | .mv x => val (evX env gs x)
 | .pick (.t c) a b => match evX env gs (.t c) with
   | .bool e => match a, b with
     | .c (.bool true), b => match evX env ((c, false) :: gs) b with
       | .bool y => val (.bool (e || y))
       | _ => none
     | a, .c (.bool false) => match evX env ((c, true) :: gs) a with
       | .bool x => val (.bool (e && x))
       | _ => none
     | a, b => match evX env ((c, true) :: gs) a, evX env ((c, false) :: gs) b with
       | .bool x, .bool y => val (.bool (bif e then x else y))
       | _, _ => none
   | _ => none
 | .bin op x y => binV op (evX env gs x) (evX env gs y)
 | .beq neg x y => match evX env gs x, evX env gs y with
   | .bool a, .bool b => val (.bool (match neg with | true => !(a == b) | false => a == b))
   | _, _ => none
 | .un .not x => match evX env gs x with
   | .bool b => val (.bool (!b))
   | _ => none
 | .un .neg x => match evX env gs x with
   | .int k n => some ⟨some (inR k (0 - n)), none, .int k (0 - n)⟩
   | _ => none
 | .slen x => match evX env gs x with
   | .str s => match hd with
     | true => val (.int .i64 s.size)
     | false => some ⟨none, some (s.size < 9223372036854775808), .int .i64 s.size⟩
   | _ => none
 | .len x => match evX env gs x with
   | .lst _ l _ => match hd with
     | true => val (.int .i64 l.length)
     | false => some ⟨none, some (l.length < 9223372036854775808), .int .i64 l.length⟩
   | .vls _ xs _ => val (.int .i64 xs.length)
   | .sl sz h => match arrV hp sz h with
     | some (.lst t l _) => val (.int .i64 l.length)
     | _ => none
   | _ => none
 | .idx x i => match evX env gs x, evX env gs i with
   | .str s, .int _ i => some ⟨some (0 ≤ i ∧ i < s.size), none, .int .u8 (byteAt s i.toNat)⟩
   | _, _ => none
 | .ia sz x i => match evX env gs x, evX env gs i with
   | .lst t l _, .int _ i => if szE t = sz then some ⟨some (0 ≤ i ∧ i < l.length), none, .pw t (nth (dflE t) l i)⟩ else none
   | .sl sz' h, .int _ i => if sz' = sz then match arrV hp sz h with
     | some (.lst t l _) => some ⟨some (0 ≤ i ∧ i < l.length), none, .pe sz h i 0⟩
     | _ => none
     else none
   | .vls sz' (v :: vs) _, .int _ i => if sz' = sz then match tyOfE v with
     | some t => if szE t = sz then match asF 8 (.lst t) (.vls sz' (v :: vs) .none) with
       | some l => some ⟨some (0 ≤ i ∧ i < l.length), none, .pw t (nth (dflE t) l i)⟩
       | none => none
       else none
     | none => none
     else none
   | _, _ => none
 | .nilq neg x => match evX env gs x with
   | .lst _ (_ :: _) _ => val (.bool (neg != false))
   | .vls _ (_ :: _) _ => val (.bool (neg != false))
   | _ => none
 | .fa off n x => match evX env gs x with
   | .loc h o => val (.loc h (o + off))
   | .pe sz h i o => val (.pe sz h i (o + off))
   | v => match deref hp v with
     | some xs => if off + n ≤ xs.length then val (.pel ((xs.drop off).take n)) else none
     | none => none
 | .nilck x => match evX env gs x with
   | .pel xs => val (.pel xs)
   | .pw t x => val (.pw t x)
   | .loc h o => val (.loc h o)
   | .pe sz h i o => val (.pe sz h i o)
   | _ => none
 | .ld g n x => match evX env gs x with
   | .pa h o m i => match g, hlk hp h with
     | false, some (.ob .plain vs) => if o + m ≤ vs.length then optV (colV i ((vs.drop o).take m)) else none
     | _, _ => none
   | .pe sz h i o => match arrV hp sz h with
     | some (.lst t l _) => peV g n sz o t (nth (dflE t) l i)
     | _ => none
   | _ => match g with
   | true => match wholeV n (evX env gs x) with
     | some v => val v
     | none => match deref hp (evX env gs x) with
       | some xs => if 0 < n ∧ n ≤ xs.length ∧ (xs.take n).all VV.okc = true then val (.agg (xs.take n)) else none
       | none => none
   | false => match deref hp (evX env gs x) with
     | some (v :: _) => val v
     | _ => none
 | .fld g off n x => match aggV (evX env gs x) with
   | some xs => match g with
     | true => if off + n ≤ xs.length ∧ xs.all VV.okc = true then val (.agg ((xs.drop off).take n)) else none
     | false => if n = 1 then optV (xs[off]?) else none
   | none => none
 | .ext i x => match evX env gs x with
   | .tup xs => optV xs[i]?
   | _ => none
 | .build zs ps => if (ofAVs zs).all VV.okc = true then match putPs (ofAVs zs) (ps.map fun (o, n, x) => (o, n, evX env gs x)) with
   | some cs => val (.agg cs)
   | none => none
   else none
 | .bsl sz len z ps => if elemOk sz (ofAV z) = true then match putEs sz (List.replicate len (ofAV z)) (ps.map fun (i, x) => (i, evX env gs x)) with
   | some cs => val (.vls sz cs .clip)
   | none => none
   else none
 | .slc sz x lo hi none => match evX env gs x with
   | .lst t l tk => if szE t = sz then match slcV l (lo.map (evX env gs)) (hi.map (evX env gs)) with
     | some (c, l') => some ⟨some c, none, .lst t l' .none⟩
     | none => none
     else none
   | _ => none
 | .slc sz x lo hi (some mx) => match evX env gs x, bndV 0 (lo.map (evX env gs)), hi.map (evX env gs), evX env gs mx with
   | .lst t l tk, some a, some (.int _ b), .int _ m => if szE t = sz then some ⟨some (0 ≤ a ∧ a ≤ b ∧ b = m ∧ b ≤ l.length), none, .lst t ((l.take b.toNat).drop a.toNat) .clip⟩ else none
   | _, _, _, _ => none
 | .sub x lo hi => match evX env gs x with
   | .str s => match bndV 0 (lo.map (evX env gs)), bndV s.size (hi.map (evX env gs)) with
     | some a, some b => some ⟨some (0 ≤ a ∧ a ≤ b ∧ b ≤ s.size), none, .str (s.extract a.toNat b.toNat)⟩
     | _, _ => none
   | _ => none
 | .mkf (.func f) first cap => val (.fn f (first.map (evX env gs)) (cap.map (evX env gs)))
 | .minmax g [x, y] => match evX env gs x, evX env gs y with
   | .int k a, .int k' b => if k = k' then val (.int k (match g with | true => max a b | false => min a b)) else none
   | _, _ => none
 | .itoi k x => match evX env gs x with
   | .int _ n => some ⟨some (inR k n), none, .int k n⟩
   | _ => none
 | .itos x => match evX env gs x with
   | .int _ n => val (.str (Utf8.encode n))
   | _ => none
 | .look ok g z m k => match hd with
   | true => none
   | false => match mapC hp (evX env gs m) with
     | some (.lst (.pair t u) es _) => match asF 8 t (evX env gs k), asF 8 u (ofAV z) with
       | some kk, some zz => if kOk t g = true then match lookT t u es kk with
         | some r => val (match ok with | true => .tup [toVV u (r.getD zz), .bool r.isSome] | false => toVV u (r.getD zz))
         | none => none
         else none
       | _, _ => none
     | some (.vls _ [] _) => match tyOfV (evX env gs k) with
       | some t => if kOk t g = true then val (match ok with | true => .tup [ofAV z, .bool false] | false => ofAV z) else none
       | none => none
     | _ => none
 | .iaA n sz x i => match evX env gs x, evX env gs i with
   | .loc h o, .int _ i => if sz = 1 then some ⟨some (0 ≤ i ∧ i < n), none, .pa h o n i⟩ else none
   | _, _ => none
 | .aeq neg n x y => match aggV (evX env gs x), aggV (evX env gs y) with
   | some xs, some ys => if xs.length = n ∧ ys.length = n then match intsV xs, intsV ys with
     | some (k, is), some (k', js) => if k = k' then val (.bool (neg != decide (is = js))) else none
     | _, _ => none
     else none
   | _, _ => none
 | .idxA g n sz x i => match g, evX env gs x, evX env gs i with
   | true, .agg vs, .int _ i => if vs.length = n * sz then match colsV i n sz vs sz with
     | some l => some ⟨some (0 ≤ i ∧ i < n), none, .agg l⟩
     | none => none
     else none
   | false, v, .int _ i => match aggV v with
     | some vs => if vs.length = n ∧ sz = 1 then match intsV vs with
       | some (k, l) => some ⟨some (0 ≤ i ∧ i < n), none, .int k (nth 0 l i)⟩
       | none => none
       else none
     | none => none
   | _, _, _ => none
 | _ => none
def addC : Option Prop → Prop → Prop
 | none, A => A
 | some c, A => c ∧ A
def addH : Option Prop → Prop → Prop
 | none, A => A
 | some c, A => c → A
inductive GV where
 | no
 | skip
 | on (gs : List (Nat × Bool))
 | bad
def bexp (gs : List (Nat × Bool)) : VV → Option Bool
 | .bool b => some b
 | .cnd hs (.bool b) => if gsub hs gs then some b else none
 | _ => none
def GP (env : List (Nat × VV)) (gs : List (Nat × Bool)) : List (Nat × Bool) → Prop
 | [] => True
 | [(s, want)] => match bexp gs (lk env s) with
   | some b => b = want
   | none => True
 | (s, want) :: r => match bexp gs (lk env s) with
   | some b => b = want ∧ GP env gs r
   | none => GP env gs r
def gvOf (env : List (Nat × VV)) : Option (Nat × Bool) → GV
 | none => .no
 | some (s, want) => match lk env s with
   | .bool _ => .on [(s, want)]
   | .cnd gs (.bool _) => .on ((s, want) :: gs)
   | .tup _ => .skip
   | _ => .bad
def tyOfZ (sz : Nat) (z : VV) : Option Ty :=
 match tyOfV z with
 | some t => some t
 | none => ((List.range 32).find? fun n => decide (Uni.sz n = sz) && (asF 8 (.nm n) z).isSome).map .nm
structure Ctr where
 pv : List VV → Option PV
 run : List VV → St → (VV → St → Prop) → Prop
abbrev Ctx := Nat → Option Ctr
def callee (env : List (Nat × VV)) (gs : List (Nat × Bool)) (f : AX) (args : List AX) : Option (Nat × List VV) :=
 match evX env gs f with
 | .fn g fst cap => some (g, fst ++ args.map (evX env gs) ++ cap)
 | _ => none
def opV' (Γ : Ctx) (hd : Bool) (hp : List (Nat × LObj)) (env : List (Nat × VV)) (gs : List (Nat × Bool)) : AOp → Option PV
 | .call f args => match callee env gs f args with
   | some (g, vs) => match Γ g with
     | some c => c.pv vs
     | none => none
   | none => none
 | op => opV hd hp env gs op
def takeTok (st : St) : VTok → Option (List Nat)
 | .none => none
 | .clip => some st.live
 | .own id => if st.live.contains id then some (st.live.filter fun j => j != id) else none
def appE (st : St) (sz : Nat) (x y : VV) (K : VV → St → Prop) : Prop :=
 match x with
 | .lst t l tk => if szE t = sz then match asF 8 (.lst t) y, takeTok st tk with
   | some l', some live' => l.length + l'.length ≤ 8589934592 ∧ K (.lst t (l ++ l') (.own st.nx)) { st with live := st.nx :: live', nx := st.nx + 1 }
   | _, _ => False
   else False
 | .vls sz' xs tk => if sz' = sz then match y, takeTok st tk with
   | .vls sz'' ys _, some live' => if sz'' = sz ∧ xs.length + ys.length ≤ 1000 then K (.vls sz (xs ++ ys) (.own st.nx)) { st with live := st.nx :: live', nx := st.nx + 1 } else False
   | .lst t l _, some live' => if szE t = sz then match asF 8 (.lst t) (.vls sz' xs .none) with
     | some l₀ => l₀.length + l.length ≤ 8589934592 ∧ K (.lst t (l₀ ++ l) (.own st.nx)) { st with live := st.nx :: live', nx := st.nx + 1 }
     | none => False
     else False
   | _, _ => False
   else False
 | _ => False
def appM (st : St) (sz : Nat) (x y : VV) (K : VV → St → Prop) : Prop :=
 match x, y with
 | .vls sz' [] .clip, .lst t l _ => if sz' = sz ∧ szE t = sz then (l ≠ [] ∧ l.length ≤ 8589934592) ∧ K (.sl sz st.nx) { st with hp := hpt st.hp st.nx (.ob .arr [.lst t l .none, .sl sz st.nx]), nx := st.nx + 1 } else False
 | _, _ => False
def lenVV : VV → Option Int
 | .lst _ l _ => some l.length
 | .vls _ xs _ => some xs.length
 | _ => none
def setIV (k : IntKind) (x i : Int) : Nat → List VV → Option (List VV)
 | _, [] => some []
 | j, .int k' y :: r => if k' = k then match setIV k x i (j + 1) r with
   | some l => some (.int k (if i = (j : Int) then x else y) :: l)
   | none => none
   else none
 | _, _ => none
def opE (Γ : Ctx) (st : St) (op : AOp) (K : VV → St → Prop) : Prop :=
 match op with
 | .new zs => if (ofAVs zs).all VV.okc = true then K (.loc st.nx 0) { st with hp := hpt st.hp st.nx (.cells (ofAVs zs)), nx := st.nx + 1 } else False
 | .box x => if (cellsV (evX st.env [] x)).all VV.okc = true then K (.loc st.nx 0) { st with hp := hpt st.hp st.nx (.cells (cellsV (evX st.env [] x))), nx := st.nx + 1 } else False
 | .st n x v => match evX st.env [] x with
   | .pa h o m i => match hlk st.hp h, evX st.env [] v with
     | some (.ob .plain vs), .int k x => if n = 1 ∧ o + m ≤ vs.length then match setIV k x i 0 ((vs.drop o).take m) with
       | some l => K (.tup []) { st with hp := hpt st.hp h (.cells (vs.take o ++ l ++ vs.drop (o + m))) }
       | none => False
       else False
     | _, _ => False
   | .pe sz h i o => match arrV st.hp sz h with
     | some (.lst t l _) => if (cellsV (evX st.env [] v)).length = n ∧ (cellsV (evX st.env [] v)).all VV.okc = true ∧ o + n ≤ sz then
       match (if o = 0 ∧ n = sz then asF 8 t (evX st.env [] v) else asF 8 t (.agg (setAt (cellsF 8 t (nth (dflE t) l i)) o (cellsV (evX st.env [] v))))) with
       | some e => K (.tup []) { st with hp := hpt st.hp h (.ob .arr [.lst t (l.set i.toNat e) .none, .sl sz h]) }
       | none => False
       else False
     | _ => False
   | .loc h o => match hlk st.hp h with
     | some (.ob .plain vs) => if (cellsV (evX st.env [] v)).length = n ∧ (cellsV (evX st.env [] v)).all VV.okc = true ∧ o + n ≤ vs.length then K (.tup []) { st with hp := hpt st.hp h (.cells (setAt vs o (cellsV (evX st.env [] v)))) } else False
     | _ => False
   | _ => False
 | .mks sz z n c => match evX st.env [] n, evX st.env [] c, tyOfZ sz (ofAV z) with
   | .int _ n, .int _ c, some t => if h : szE t = sz then match asF 8 t (ofAV z) with
     | some zz => (0 ≤ n ∧ n ≤ c ∧ c ≤ 8589934592) ∧ K (.sl sz st.nx) { st with hp := hpt st.hp st.nx (.ob .arr [.lst t (List.replicate n.toNat zz) .none, .sl sz st.nx]), nx := st.nx + 1 }
     | none => False
     else False
   | _, _, _ => False
 | .app sz x y => match Γ 99998 with
   | some _ => appM st sz (evX st.env [] x) (evX st.env [] y) K
   | none => appE st sz (evX st.env [] x) (evX st.env [] y) K
 | .appf sz x i y v => match evX st.env [] i, evX st.env [] y, lenVV (evX st.env [] x) with
   | .int _ k, .vls sz' [_] _, some n => if sz' = sz ∧ (cellsV (evX st.env [] v)).length = sz ∧ (cellsV (evX st.env [] v)).all VV.okc = true then k = n ∧ appE st sz (evX st.env [] x) (.vls sz [evX st.env [] v] .none) K else False
   | _, _, _ => False
 | .call f args => match callee st.env [] f args with
   | some (g, vs) => match Γ g with
     | some c => c.run vs st K
     | none => False
   | none => False
 | .mkmap => K (.mp st.nx) { st with hp := hpt st.hp st.nx (.ob .map [.vls 1 [] .none]), nx := st.nx + 1 }
 | .upd g m k v => match evX st.env [] m with
   | .mp h => match hlk st.hp h, tyOfV (evX st.env [] k), tyOfV (evX st.env [] v) with
     | some (.ob c cs), some t, some u => if c = .map ∧ kOk t g = true then match asF 8 t (evX st.env [] k), asF 8 u (evX st.env [] v) with
       | some kk, some vv => match cs with
         | [.lst (.pair t' u') es _] => if hh : t' = t ∧ u' = u then match asetT t u (hh.1 ▸ hh.2 ▸ es) kk vv with
           | some es' => K (.tup []) { st with hp := hpt st.hp h (.ob .map [.lst (.pair t u) es' .none]) }
           | none => False
           else False
         | [.vls _ [] _] => K (.tup []) { st with hp := hpt st.hp h (.ob .map [.lst (.pair t u) [(kk, vv)] .none]) }
         | _ => False
       | _, _ => False
       else False
     | _, _, _ => False
   | _ => False
 | .rng x => match evX st.env [] x with
   | .str s => K (.loc st.nx 0) { st with hp := hpt st.hp st.nx (.ob .sit [.str s, .int .i64 0]), nx := st.nx + 1 }
   | _ => False
 | .nxt x => match evX st.env [] x with
   | .loc h 0 => match hlk st.hp h with
     | some (.ob c [.str s, .int _ p]) => if c = .sit then ifB (decide (p < s.size)) (K (.tup [.bool true, .int .i64 p, .int .i32 (Utf8.decode s p.toNat).1]) { st with hp := hpt st.hp h (.ob .sit [.str s, .int .i64 (p + (Utf8.decode s p.toNat).2)]) }) (K (.tup [.bool false]) st) else False
     | _ => False
   | _ => False
 | .idxA g n sz x i => match evX st.env [] x, evX st.env [] i with
   | .agg vs, .int _ i => if vs.length = n * sz ∧ vs.all VV.okc = true then (0 ≤ i ∧ i < n) ∧ selE i 0 n fun j => match g with
     | true => K (.agg ((vs.drop (j * sz)).take sz)) st
     | false => if sz = 1 then K (vs.getD j .any) st else False
     else False
   | _, _ => False
 | _ => False
def rsv1 (gs : List (Nat × Bool)) : VV → VV
 | .cnd hs v => if gsub hs gs then nocnd v else .cnd hs v
 | v => v
def rsv (gs : List (Nat × Bool)) : List (Nat × VV) → List (Nat × VV)
 | [] => []
 | (a, x) :: l => (a, rsv1 gs x) :: rsv gs l
def roHit (ro : List Nat) : Option Nat → Bool
 | some d => ro.contains d
 | none => false
def wpOE (Γ : Ctx) (ro : List Nat) : List AI → St → (St → Prop) → Prop
 | [], st, K => K st
 | ai :: r, st, K =>
   if roHit ro ai.dst = true then False else
   match gvOf st.env ai.guard with
   | .no => match opV false st.hp st.env [] ai.op with
     | some ⟨c, h, v⟩ => addC c (addH h (wpOE Γ ro r { st with env := put st.env ai.dst v } K))
     | none => opE Γ st ai.op fun v st' => wpOE Γ ro r { st' with env := put st'.env ai.dst v } K
   | .skip => wpOE Γ ro r { st with env := put st.env ai.dst (.tup []) } K
   | .on gs => match opV' Γ false st.hp st.env gs ai.op with
     | some ⟨c, h, v⟩ => addC (c.map fun c => GP st.env gs gs → c) ((wpOE Γ ro r { st with env := putC st.env ai.dst gs v } K))
     | none => match gs with
       | [(s, want)] => match lk st.env s with
         | .bool b => (b = want → opE Γ { st with env := rsv gs st.env } ai.op fun v st' => wpOE Γ ro r { st' with env := put st'.env ai.dst v } K) ∧ (b = (!want) → wpOE Γ ro r { st with env := putC st.env ai.dst gs (.bool false) } K)
         | _ => False
       | _ => False
   | .bad => False
def wpHE (Γ : Ctx) (ro : List Nat) : List AI → St → (St → Prop) → Prop
 | [], st, K => K st
 | ai :: r, st, K =>
   if roHit ro ai.dst = true then False else
   match ai.op.isNew with
   | some _ => wpHE Γ ro r st K
   | none => match gvOf st.env ai.guard with
     | .no => match opV' Γ true st.hp st.env [] ai.op with
       | some ⟨c, h, v⟩ => addC c (addC h (wpHE Γ ro r { st with env := put st.env ai.dst v } K))
       | none => match ai.op with
         | .idxA false n 1 x i => match evX st.env [] x, evX st.env [] i with
           | .agg vs, .int _ i => if vs.length = n then (0 ≤ i ∧ i < n) ∧ selE i 0 n fun j => wpHE Γ ro r { st with env := put st.env ai.dst (vs.getD j .any) } K else False
           | _, _ => False
         | _ => False
     | .skip => wpHE Γ ro r { st with env := put st.env ai.dst (.tup []) } K
     | .on gs => match opV' Γ true st.hp st.env gs ai.op with
       | some ⟨c, h, v⟩ => addC (c.map fun c => GP st.env gs gs → c) (addC (h.map fun h => GP st.env gs gs → h) (wpHE Γ ro r { st with env := putC st.env ai.dst gs v } K))
       | none => False
     | .bad => False
def newsE : List (Nat × List AV) → St → (St → Prop) → Prop
 | [], st, K => K st
 | (d, zs) :: r, st, K => if (ofAVs zs).all VV.okc = true then newsE r { st with env := put st.env (some d) (.loc st.nx 0), hp := hpt st.hp st.nx (.cells (ofAVs zs)), nx := st.nx + 1 } K else False
inductive LOut (S R : Type) where
 | brk (s : S)
 | ret (r : R)
 | ext (i : Nat) (s : S)
def allT : (ts : List Ty) → (ElT ts → Prop) → Prop
 | [], F => F ()
 | [t], F => ∀ x : El t, F x
 | t :: u :: ts, F => ∀ x : El t, allT (u :: ts) fun r => F (x, r)
end
end Go.AL
namespace Go.AL
open Go.RowKit
set_option linter.unusedVariables false
set_option linter.unusedSimpArgs false
set_option linter.unusedSectionVars false
abbrev AOp.plainH : AOp → Bool
 | .mv .. => true
 | .pick .. => true
 | .bin .. => true
 | .beq .. => true
 | .nilq .. => true
 | .un .. => true
 | .len .. => false
 | .slen .. => false
 | .cap .. => true
 | .idx .. => true
 | .idxA .. => true
 | .ia .. => true
 | .fa .. => true
 | .nilck .. => true
 | .ld .. => true
 | .st .. => true
 | .new .. => true
 | .box .. => true
 | .fld .. => true
 | .ext .. => true
 | .build .. => true
 | .bsl .. => true
 | .app .. => false
 | .appf .. => false
 | .slc .. => false
 | .sub .. => true
 | .mkf .. => true
 | .call .. => false
 | .minmax .. => true
 | .itoi .. => true
 | .itos .. => true
 | .mkmap => true
 | .look .. => true
 | .upd .. => true
 | .mlen .. => true
 | .rng .. => true
 | .nxt .. => true
 | .mks .. => true
 | .iaA .. => true
 | .aeq .. => true
 | .appz .. => true
 | .bad => true
theorem wpH_plain {P : Program} {w₀ : World} {env : Env} {σ₀ : AH} {op : AOp} {K : AV → Prop} (h : op.plainH = true) : wpH P w₀ env σ₀ op K = wpA P w₀ env σ₀ op fun v _ => K v := by cases op <;> first | rfl | cases h
def optP : Option Prop → Prop
 | none => True
 | some p => p
def GH (aenv : Env) (gs : List (Nat × Bool)) : Prop := ∀ g ∈ gs, aenv.get g.1 = .bool g.2
section
variable [Uni3] (P : Program) (W : World)
def SR (w : Wd) (nx : Nat) (aenv : Env) (v : VV) (a : AV) : Prop :=
 match v with
 | .cnd gs v => (GH aenv gs → VRel P W w nx v a) ∧ (¬ GH aenv gs → ∃ xs, a = .tup xs)
 | v => VRel P W w nx v a
def ER (w : Wd) (nx : Nat) (env : List (Nat × VV)) (aenv : Env) : Prop := ∀ t, SR P W w nx aenv (lk env t) (aenv.get t)
def OK.rel : OK → List AV → AObj → Prop
 | .plain, as, o => o = .cells as
 | .map, as, o => ∃ (es : List (AV × AV)) (t : Tok), as = [.lst 1 (es.map fun p => .fn (.func 0) [p.1] [p.2]) t] ∧ o = .map es
 | .sit, as, o => ∃ (s : ByteArray) (p : Nat), as = [.str s, .int .i64 p] ∧ o = .sit s p
 | .arr, as, o => ∃ (sz b n c : Nat) (xs : List AV) (t : Tok) (ys rest : List AV), as = [.lst sz xs t, .slc sz b 0 n c] ∧ o = .cells (ys ++ rest) ∧ xs.length = n ∧ n ≤ c ∧ c < 9223372036854775808 ∧ ys.map AV.bare1 = xs.flatMap AV.cells
def ORel (w : Wd) (nx : Nat) : LObj → AObj → Prop
 | .ob k vs, o => ∃ as, VRelL P W w nx vs as ∧ k.rel as o
theorem ORel_cells {P : Program} {W : World} {w : Wd} {nx : Nat} {vs : List VV} {o : AObj} : ORel P W w nx (.cells vs) o ↔ ∃ as, o = .cells as ∧ VRelL P W w nx vs as := by
 simp only [ORel, OK.rel]
 exact ⟨fun ⟨as, h, k⟩ => ⟨as, k, h⟩, fun ⟨as, k, h⟩ => ⟨as, h, k⟩⟩
def AObj.mine : AObj → Bool
 | .cells _ | .map _ | .sit _ _ => true
 | _ => false
theorem OK.rel_mine {k : OK} {as : List AV} {o : AObj} (h : k.rel as o) : o.mine = true := by
 cases k with
 | plain => cases h; rfl
 | map => obtain ⟨_, _, _, rfl⟩ := h; rfl
 | sit => obtain ⟨_, _, _, rfl⟩ := h; rfl
 | arr => obtain ⟨_, _, _, _, _, _, _, _, _, rfl, _⟩ := h; rfl
def HO (w : Wd) (nx : Nat) (hp : List (Nat × LObj)) (σ : AH) : Prop := ∀ h o, hlk hp h = some o → ∃ ao, σ (w.ρ h) = some ao ∧ ORel P W w nx o ao
variable {P W} {w : Wd} {nx : Nat} {env : List (Nat × VV)} {aenv : Env} {hp : List (Nat × LObj)} {σ : AH} {gs : List (Nat × Bool)}
theorem gmem_iff {g : Nat × Bool} {gs : List (Nat × Bool)} : gmem g gs = true ↔ g ∈ gs := by
 simp only [gmem, List.any_eq_true, Bool.and_eq_true, beq_iff_eq]
 constructor
 ·rintro ⟨h, hm, h1, h2⟩
  have : h = g := Prod.ext h1 h2
  exact this ▸ hm
 ·exact fun h => ⟨g, h, rfl, rfl⟩
theorem gsub_iff {gs hs : List (Nat × Bool)} : gsub gs hs = true ↔ ∀ g ∈ gs, g ∈ hs := by
 simp [gsub, List.all_eq_true, gmem_iff]
theorem GH.sub {hs : List (Nat × Bool)} (h : GH aenv gs) (hs' : gsub hs gs = true) : GH aenv hs := fun g hg => h g (gsub_iff.1 hs' g hg)
theorem evX_rel (he : ER P W w nx env aenv) (hg : GH aenv gs) (x : AX) : VRel P W w nx (evX env gs x) (ev aenv x) := by
 cases x with
 | c v => exact ofAV_rel v
 | t n =>
   have := he n
   simp only [evX, ev]
   split
   ·rename_i hs v hv
    rw [hv] at this
    split
    ·rename_i hsub; exact this.1 (hg.sub hsub)
    ·simp [VRel]
   ·rename_i v hv
    unfold SR at this
    split at this
    ·rename_i gs' v' heq
     exact absurd heq (hv gs' v')
    ·exact this
theorem evX_map (he : ER P W w nx env aenv) (hg : GH aenv gs) : ∀ (xs : List AX), VRelL P W w nx (xs.map (evX env gs)) (xs.map (ev aenv))
 | [] => by simp [VRelL]
 | x :: xs => by simp only [List.map_cons, VRelL]; exact ⟨_, _, rfl, evX_rel he hg x, evX_map he hg xs⟩
theorem bexp_rel (he : ER P W w nx env aenv) (hg : GH aenv gs) {s : Nat} {b : Bool} (h : bexp gs (lk env s) = some b) : aenv.get s = .bool b := by
 have := he s
 unfold bexp at h
 split at h
 ·rename_i b' hb; rw [hb] at this; cases h; simpa [SR, VRel] using this
 ·rename_i hs b' hb
  rw [hb] at this
  split at h
  ·rename_i hsub; cases h; have := this.1 (hg.sub hsub); simpa [VRel] using this
  ·cases h
 ·cases h
theorem GP_of (he : ER P W w nx env aenv) (hg : GH aenv gs) : ∀ (l : List (Nat × Bool)), GH aenv l → GP env gs l
 | [], _ => trivial
 | [(s, want)], h => by
   simp only [GP]
   split
   ·rename_i b hb
    have h1 := bexp_rel he hg hb
    have h2 := h (s, want) (by simp)
    rw [h1] at h2; simpa using h2
   ·trivial
 | (s, want) :: g :: r, h => by
   simp only [GP]
   have ih := GP_of he hg (g :: r) fun x hx => h x (by simp only [List.mem_cons] at hx ⊢; exact .inr hx)
   split
   ·rename_i b hb
    have h1 := bexp_rel he hg hb
    have h2 := h (s, want) (by simp)
    rw [h1] at h2
    exact ⟨by simpa using h2, ih⟩
   ·exact ih
theorem inR_wrap {k : IntKind} {x : Int} (h : inR k x) : k.wrap x = x := by
 unfold inR at h
 split at h
 ·simp [IntKind.wrap, IntKind.signed, IntKind.bits]; omega
 ·simp [IntKind.wrap, IntKind.signed, IntKind.bits]; omega
 ·exact h
theorem encE_cells_bare (t : Ty) (x : El t) : (encE t x).cells.map AV.bare1 = (encE t x).cells := by
 cases t <;> simp [encE, AV.cells, AV.bare1]
 exact Uni.bare _ _
theorem encE_bare (t : Ty) (x : El t) : (encE t x).bare = encE t x := by
 cases t <;> simp [encE, AV.bare]
 exact Uni.bare _ _
theorem deref_rel (hh : HO P W w nx hp σ) {v : VV} {a : AV} {xs : List VV} (h : deref hp v = some xs) (hv : VRel P W w nx v a) :
  (∃ as, a = .elt as ∧ VRelL P W w nx xs as) ∨ (∃ b o as, a = .ptr b o ∧ σ b = some (.cells as) ∧ VRelL P W w nx xs (as.drop o)) := by
 unfold deref at h
 split at h
 ·cases h; simp only [VRel] at hv; exact .inl hv
 ·cases h
  simp only [VRel] at hv
  obtain ⟨as, rfl, hv⟩ := hv
  exact .inl ⟨as, rfl, cellsF_rel _ _ _ _ hv⟩
 ·rename_i hd o
  split at h
  ·rename_i vs hvs
   cases h
   simp only [VRel] at hv
   obtain ⟨ao, h1, h2⟩ := hh _ _ hvs
   obtain ⟨as, rfl, h3⟩ := ORel_cells.1 h2
   exact .inr ⟨_, _, as, hv.2, h1, h3.drop o⟩
  ·cases h
 ·cases h
theorem VRelL.setAt : ∀ {cs : List VV} {ds : List AV} {o : Nat} {xs : List VV} {as : List AV}, VRelL P W w nx cs ds → VRelL P W w nx xs as → VRelL P W w nx (AL.setAt cs o xs) (AL.setAt ds o as)
 | cs, ds, o, [], as, h, k => by simp only [VRelL] at k; subst k; exact h
 | cs, ds, o, x :: xs, as, h, k => by
   simp only [VRelL] at k
   obtain ⟨a, r, rfl, k1, k2⟩ := k
   show VRelL P W w nx (AL.setAt (cs.set o x) (o + 1) xs) (AL.setAt (ds.set o a) (o + 1) r)
   exact VRelL.setAt (VRelL.set o h k1) k2
theorem putPs_rel : ∀ {ps : List (Nat × Nat × AX)} {cs : List VV} {ds : List AV} {out : List VV}, ER P W w nx env aenv → GH aenv gs → VRelL P W w nx cs ds →
  putPs cs (ps.map fun (o, n, x) => (o, n, evX env gs x)) = some out → ∃ es, putParts ds (ps.map fun (o, n, x) => (o, n, ev aenv x)) = some es ∧ VRelL P W w nx out es
 | [], cs, ds, out, he, hg, hr, h => by simp only [List.map_nil, putPs] at h; cases h; exact ⟨ds, rfl, hr⟩
 | (o, n, x) :: ps, cs, ds, out, he, hg, hr, h => by
   simp only [List.map_cons, putPs] at h
   split at h
   ·rename_i hc
    have h1 := cellsV_rel hc.2.2 (evX_rel he hg x)
    have hl := h1.1.length
    have hr' : VRelL P W w nx (setAt cs o (cellsV (evX env gs x))) (setAt ds o (ev aenv x).cells) := by
     exact VRelL.setAt hr h1.1
    obtain ⟨es, h2, h3⟩ := putPs_rel he hg hr' h
    refine ⟨es, ?_, h3⟩
    simp only [List.map_cons, putParts]
    rw [if_pos ⟨by rw [hl]; exact hc.1, by rw [hr.length]; exact hc.2.1, h1.2⟩]
    exact h2
   ·cases h
end
end Go.AL
namespace Go.AL
open Go.RowKit
set_option linter.unusedVariables false
set_option linter.unusedSimpArgs false
set_option linter.unusedSectionVars false
section
variable [Uni3] {P : Program} {W : World} {w : Wd} {nx : Nat} {env : List (Nat × VV)} {aenv : Env} {hp : List (Nat × LObj)} {σ : AH} {gs : List (Nat × Bool)}
theorem optAll_rel5 {t : Ty} {d : Nat} : ∀ {vs : List VV} {l : List (El t)} {as : List AV}, optAll (asF d t) vs = some l → VRelL P W w nx vs as → as.map AV.bare = l.map (encE t)
 | [], l, as, h, hr => by
   simp only [optAll, Option.some.injEq] at h; subst h
   simp only [VRelL] at hr; subst hr; rfl
 | v :: vs, l, as, h, hr => by
   simp only [optAll] at h
   split at h
   ·rename_i y hy
    split at h
    ·rename_i ys hys
     cases h
     simp only [VRelL] at hr
     obtain ⟨a, r, rfl, h1, h2⟩ := hr
     simp only [List.map_cons, asF_rel d t v y a hy h1, optAll_rel5 hys h2]
    ·cases h
   ·cases h
theorem colV_rel {i : Int} {col : List VV} {v : VV} {as : List AV} (h : colV i col = some v) (hr : VRelL P W w nx col as) (hi : i.toNat < col.length) : ∃ a, as[i.toNat]? = some a ∧ VRel P W w nx v a := by
 unfold colV at h
 split at h
 ·cases h
 ·rename_i u r
  split at h
  ·rename_i t ht
   split at h
   ·rename_i l hl
    cases h
    have e := optAll_rel5 hl hr
    have hlen : as.length = l.length := by
     have := congrArg List.length e
     simpa using this
    have h2 : i.toNat < as.length := by rw [hr.length]; exact hi
    refine ⟨as[i.toNat], by simp [h2], toVV_rel ?_⟩
    have h3 : (as.map AV.bare)[i.toNat]? = (l.map (encE t))[i.toNat]? := by rw [e]
    simp only [List.getElem?_map] at h3
    rw [List.getElem?_eq_getElem h2, List.getElem?_eq_getElem (by omega)] at h3
    simp only [Option.map_some, Option.some.injEq] at h3
    rw [h3]
    congr 1
    simp [nth, List.getD_eq_getElem?_getD, show i.toNat < l.length by omega]
   ·cases h
  ·cases h
theorem colsV_rel {i : Int} {n sz : Nat} {vs : List VV} {as : List AV} (hl : vs.length = n * sz) (hi : 0 ≤ i ∧ i < n) (hr : VRelL P W w nx vs as) : ∀ (j : Nat) {l : List VV}, j ≤ sz → colsV i n sz vs j = some l → VRelL P W w nx l ((as.drop (i.toNat * sz)).take j)
 | 0, l, _, h => by
   simp only [colsV, Option.some.injEq] at h; subst h
   simp [VRelL]
 | j + 1, l, hj, h => by
   simp only [colsV] at h
   split at h
   ·rename_i l' v hl' hv
    cases h
    have ih := colsV_rel hl hi hr j (by omega) hl'
    have hin : i.toNat < n := by omega
    have hmul : (i.toNat + 1) * sz ≤ n * sz := Nat.mul_le_mul_right _ hin
    rw [Nat.add_mul, Nat.one_mul] at hmul
    have hrow : ∀ (ks : List Nat), VRelL P W w nx (ks.map fun k => vs.getD (k * sz + j) .any) (ks.map fun k => as.getD (k * sz + j) .any) := by
     intro ks
     induction ks with
     | nil => simp [VRelL]
     | cons k ks ih =>
       simp only [List.map_cons, VRelL]
       refine ⟨_, _, rfl, ?_, ih⟩
       cases hk : vs[k * sz + j]? with
       | none => simp [List.getD_eq_getElem?_getD, hk, VRel]
       | some u =>
         obtain ⟨a, h1, h2⟩ := hr.get _ hk
         simpa [List.getD_eq_getElem?_getD, hk, h1] using h2
    obtain ⟨a, h1, h2⟩ := colV_rel hv (hrow _) (by simpa using hin)
    rw [List.getElem?_map, List.getElem?_range hin] at h1
    simp only [Option.map_some, Option.some.injEq] at h1
    have hla : i.toNat * sz + j < as.length := by rw [hr.length]; omega
    have e : (as.drop (i.toNat * sz)).take (j + 1) = (as.drop (i.toNat * sz)).take j ++ [a] := by
     rw [List.take_succ_eq_append_getElem (by rw [List.length_drop]; omega), List.getElem_drop, ← h1]
     simp [List.getD_eq_getElem?_getD, hla]
    rw [e]
    exact ih.append (by simp only [VRelL]; exact ⟨a, [], rfl, h2, rfl⟩)
   ·cases h
theorem alook_find {t u : Ty} {es : List (El t × El u)} {k : El t} {r : Option (El u)} (h : lookT t u es k = some r) : findA (encE t k) (es.map fun p => (encE t p.1, encE u p.2)) = some (r.map (encE u)) := by
 cases t with
 | str =>
   simp only [lookT, Option.some.injEq] at h
   subst h
   induction es with
   | nil => rfl
   | cons p es ih =>
     obtain ⟨a, b⟩ := p
     simp only [List.map_cons, findA, encE, keyEq, alook]
     by_cases e : (k : ByteArray) = a
     ·simp [e]
     ·simp only [e, decide_false, if_false]; exact ih
 | int kd =>
   simp only [lookT, Option.some.injEq] at h
   subst h
   induction es with
   | nil => rfl
   | cons p es ih =>
     obtain ⟨a, b⟩ := p
     simp only [List.map_cons, findA, encE, keyEq, alook]
     by_cases e : (k : Int) = a
     ·simp [e]
     ·simp only [e, decide_false, if_true, if_false]; exact ih
 | _ => simp [lookT] at h
theorem mapC_rel (hh : HO P W w nx hp σ) {m : VV} {a : AV} {c : VV} (h : mapC hp m = some c) (hv : VRel P W w nx m a) :
  (a = .map none ∧ c = .vls 1 [] .none) ∨ ∃ r es t, a = .map (some r) ∧ σ r = some (.map es) ∧ VRel P W w nx c (.lst 1 (es.map fun p => .fn (.func 0) [p.1] [p.2]) t) := by
 unfold mapC at h
 split at h
 ·rename_i hd
  simp only [VRel] at hv
  split at h
  ·rename_i k vs hvs
   split at h
   ·rename_i hk
    subst hk
    obtain ⟨ao, h1, as, h2, es, t, rfl, rfl⟩ := hh _ _ hvs
    cases vs with
    | nil => cases h
    | cons v r =>
      simp only [List.head?_cons, Option.some.injEq] at h
      subst h
      simp only [VRelL] at h2
      obtain ⟨a', r', e, h3, _⟩ := h2
      cases e
      exact .inr ⟨_, es, t, hv.2, h1, h3⟩
   ·cases h
  ·cases h
 ·simp only [VRel] at hv
  cases h
  exact .inl ⟨hv, rfl⟩
 ·cases h
theorem pairs_inj {t u : Ty} {es : List (AV × AV)} {l : List (El t × El u)} (h : es.map (fun p => AV.fn (.func 0) [p.1] [p.2]) = l.map (encE (.pair t u))) : es = l.map fun p => (encE t p.1, encE u p.2) := by
 induction es generalizing l with
 | nil => cases l with
   | nil => rfl
   | cons _ _ => cases h
 | cons p es ih => cases l with
   | nil => cases h
   | cons q l =>
     simp only [List.map_cons, List.cons.injEq, encE, AV.fn.injEq, true_and, and_true] at h ⊢
     exact ⟨by rw [← h.1.1, ← h.1.2], ih h.2⟩
theorem key_rel {v : VV} {a : AV} {t : Ty} {g : Bool} (h : tyOfV v = some t) (hk : kOk t g = true) (hv : VRel P W w nx v a) : keyOk g a = true := by
 cases v <;> simp only [tyOfV, Option.some.injEq, reduceCtorEq] at h <;> subst h <;> simp only [kOk, Bool.false_eq_true] at hk <;> simp only [VRel] at hv <;> subst hv <;> simpa [keyOk] using hk
theorem key_rel' {v : VV} {a : AV} {t : Ty} {g : Bool} {k : El t} (h : asF 8 t v = some k) (hk : kOk t g = true) (hv : VRel P W w nx v a) : keyOk g a = true ∧ a = encE t k := by
 have e := asF_rel 8 t v k a h hv
 cases t <;> simp only [kOk, Bool.false_eq_true] at hk <;> simp only [encE] at e ⊢ <;> cases a <;> simp_all [AV.bare, keyOk]
def OpOK (P : Program) (W : World) (w : Wd) (nx : Nat) (aenv : Env) (σ : AH) (hd : Bool) (op : AOp) (pv : PV) : Prop :=
 (hd = false → ∀ K : AV → AH → Prop, (∀ a, VRel P W w nx pv.v a → optP pv.h → K a σ) → wpA P W aenv σ op K) ∧
 (hd = true → optP pv.h → ∀ K : AV → Prop, (∀ a, VRel P W w nx pv.v a → K a) → wpH P W aenv σ op K)
theorem OpOK.mk' {hd : Bool} {op : AOp} {pv : PV} (hop : op.plainH = true) (hh : pv.h = none) (h : ∀ K : AV → AH → Prop, (∀ a, VRel P W w nx pv.v a → K a σ) → wpA P W aenv σ op K) : OpOK P W w nx aenv σ hd op pv := by
 refine ⟨fun _ K hk => h K fun a ha => hk a ha (by rw [hh]; trivial), fun _ _ K hk => ?_⟩
 rw [wpH_plain hop]
 exact h (fun v _ => K v) hk
theorem opOK_bin {hd : Bool} {op : BinOp} {x y : AX} {pv : PV} (he : ER P W w nx env aenv) (hg : GH aenv gs) (h : binV op (evX env gs x) (evX env gs y) = some pv) (hc : optP pv.c) : OpOK P W w nx aenv σ hd (.bin op x y) pv := by
 have rx := evX_rel he hg x
 have ry := evX_rel he hg y
 generalize evX env gs x = vx at h rx
 generalize evX env gs y = vy at h ry
 unfold binV at h
 split at h
 ·rename_i k a k' b
  simp only [VRel] at rx ry
  have ar : ∀ n, arV k k' n = some pv → k = k' ∧ pv.h = none ∧ (k.wrap n = n) ∧ pv.v = .int k n := fun n hn => by
   unfold arV at hn
   split at hn
   ·rename_i hk; cases hn; exact ⟨hk, rfl, inR_wrap hc, rfl⟩
   ·cases hn
  have cm : ∀ b, cmpV k k' b = some pv → k = k' ∧ pv.h = none ∧ pv.v = .bool b := fun n hn => by
   unfold cmpV at hn
   split at hn
   ·rename_i hk; cases hn; exact ⟨hk, rfl, rfl⟩
   ·cases hn
  cases op <;> simp only [reduceCtorEq] at h
  case add => obtain ⟨h1, h2, h3, h4⟩ := ar _ h
              refine .mk' rfl h2 fun K hk => ?_
              simp only [wpA, binA, rx, ry]; exact ⟨h1, by rw [h3]; exact hk _ (by rw [h4]; simp [VRel])⟩
  case sub => obtain ⟨h1, h2, h3, h4⟩ := ar _ h
              refine .mk' rfl h2 fun K hk => ?_
              simp only [wpA, binA, rx, ry]; exact ⟨h1, by rw [h3]; exact hk _ (by rw [h4]; simp [VRel])⟩
  case mul => obtain ⟨h1, h2, h3, h4⟩ := ar _ h
              refine .mk' rfl h2 fun K hk => ?_
              simp only [wpA, binA, rx, ry]; exact ⟨h1, by rw [h3]; exact hk _ (by rw [h4]; simp [VRel])⟩
  case quo =>
   split at h
   ·rename_i hk; cases h
    refine .mk' rfl rfl fun K hk' => ?_
    simp only [wpA, binA, rx, ry]
    exact ⟨hk, hc.1, by rw [inR_wrap hc.2]; exact hk' _ (by simp [VRel])⟩
   ·cases h
  case rem =>
   split at h
   ·rename_i hk; cases h
    refine .mk' rfl rfl fun K hk' => ?_
    simp only [wpA, binA, rx, ry]
    exact ⟨hk, hc, hk' _ (by simp [VRel])⟩
   ·cases h
  case and =>
   split at h
   ·rename_i hk; cases h
    refine .mk' rfl rfl fun K hk' => ?_
    simp only [wpA, binA, rx, ry]
    exact ⟨hk, hk' _ (by simp [VRel])⟩
   ·cases h
  case or =>
   split at h
   ·rename_i hk; cases h
    refine .mk' rfl rfl fun K hk' => ?_
    simp only [wpA, binA, rx, ry]
    exact ⟨hk, hk' _ (by simp [VRel])⟩
   ·cases h
  case shl =>
   cases h
   refine .mk' rfl rfl fun K hk' => ?_
   simp only [wpA, binA, rx, ry]
   exact ⟨hc, hk' _ (by simp [VRel])⟩
  case shr =>
   cases h
   refine .mk' rfl rfl fun K hk' => ?_
   simp only [wpA, binA, rx, ry]
   exact ⟨hc, hk' _ (by simp [VRel])⟩
  all_goals
   obtain ⟨h1, h2, h4⟩ := cm _ h
   refine .mk' rfl h2 fun K hk => ?_
   simp only [wpA, binA, rx, ry]; exact ⟨h1, hk _ (by rw [h4]; simp [VRel])⟩
 ·rename_i a b
  simp only [VRel] at rx ry
  cases op <;> simp only [reduceCtorEq, Option.some.injEq] at h
  all_goals
   subst h
   refine .mk' rfl rfl fun K hk => ?_
   simp only [wpA, binA, rx, ry]
   first
   | exact ⟨hc, hk _ (by simp [VRel])⟩
   | exact hk _ (by simp [VRel])
 ·cases h
theorem nth_map {t : Ty} (l : List (El t)) (i : Int) (hi : i.toNat < l.length) : (l.map (encE t)).getD i.toNat .any = encE t (nth (dflE t) l i) := by
 simp [nth, List.getD_eq_getElem?_getD, hi]
theorem slcV_spec {α : Type} {l : List α} {lo hi : Option VV} {c : Prop} {l' : List α} (h : slcV l lo hi = some (c, l')) (hc : c) :
  ∃ a b, bndV 0 lo = some a ∧ bndV l.length hi = some b ∧ 0 ≤ a ∧ a ≤ b ∧ b ≤ l.length ∧ l' = (l.take b.toNat).drop a.toNat := by
 unfold slcV at h
 split at h
 ·cases h; exact ⟨0, l.length, rfl, rfl, by omega, by omega, by omega, by simp⟩
 ·cases h; exact ⟨_, l.length, rfl, rfl, by omega, by omega, by omega, by simp⟩
 ·cases h; exact ⟨0, _, rfl, rfl, by omega, by omega, by omega, by simp⟩
 ·cases h; exact ⟨_, _, rfl, rfl, by omega, by omega, by omega, rfl⟩
 ·cases h
theorem bndV_rel {d n : Int} {x : Option AX} (he : ER P W w nx env aenv) (hg : GH aenv gs) (h : bndV d (x.map (evX env gs)) = some n) : bnd d (x.map (ev aenv)) = some n := by
 cases x with
 | none => exact h
 | some x =>
   have rx := evX_rel he hg x
   simp only [Option.map_some] at h ⊢
   generalize evX env gs x = v at h rx
   cases v <;> simp only [bndV, reduceCtorEq] at h
   cases h
   simp only [VRel] at rx
   rw [rx]; rfl
theorem putEs_rel {sz : Nat} : ∀ {ps : List (Nat × AX)} {cs : List VV} {ds : List AV} {out : List VV}, ER P W w nx env aenv → GH aenv gs → VRelB P W w nx cs ds →
  putEs sz cs (ps.map fun (i, x) => (i, evX env gs x)) = some out → ∃ es, putElems sz ds (ps.map fun (i, x) => (i, ev aenv x)) = some es ∧ VRelB P W w nx out es
 | [], cs, ds, out, he, hg, hr, h => by simp only [List.map_nil, putEs] at h; cases h; exact ⟨ds, rfl, hr⟩
 | (i, x) :: ps, cs, ds, out, he, hg, hr, h => by
   have lenB : ∀ {cs : List VV} {ds : List AV}, VRelB P W w nx cs ds → ds.length = cs.length := by
    intro cs
    induction cs with
    | nil => intro ds h; simp only [VRelB] at h; subst h; rfl
    | cons c cs ih => intro ds h; simp only [VRelB] at h; obtain ⟨a, r, rfl, _, h⟩ := h; simp [ih h]
   have setB : ∀ {cs : List VV} {ds : List AV} (i : Nat) {v : VV} {a : AV}, VRelB P W w nx cs ds → VRel P W w nx v a → VRelB P W w nx (cs.set i v) (ds.set i a.bare) := by
    intro cs
    induction cs with
    | nil => intro ds i v a h _; simp only [VRelB] at h; subst h; simp [VRelB]
    | cons c cs ih =>
      intro ds i v a h k
      simp only [VRelB] at h
      obtain ⟨b, r, rfl, h1, h⟩ := h
      cases i with
      | zero => simp only [List.set_cons_zero, VRelB]; exact ⟨a, r, rfl, k, h⟩
      | succ i => simp only [List.set_cons_succ, VRelB]; exact ⟨b, _, rfl, h1, ih i h k⟩
   simp only [List.map_cons, putEs] at h
   split at h
   ·rename_i hc
    have hx := evX_rel he hg x
    obtain ⟨hc1, hc2⟩ := hc
    simp only [elemOk, Bool.and_eq_true, beq_iff_eq] at hc1
    have h1 := cellsV_rel hc1.2 hx
    obtain ⟨es, h2, h3⟩ := putEs_rel he hg (setB i hr hx) h
    refine ⟨es, ?_, h3⟩
    simp only [List.map_cons, putElems]
    rw [if_pos ⟨by rw [h1.1.length]; exact hc1.1, by rw [lenB hr]; exact hc2, h1.2⟩]
    exact h2
   ·cases h
theorem VRelB_rep {v : VV} {a : AV} (h : VRel P W w nx v a) : ∀ n, VRelB P W w nx (List.replicate n v) (List.replicate n a.bare)
 | 0 => by simp [VRelB]
 | n + 1 => by simp only [List.replicate_succ, VRelB]; exact ⟨a, _, rfl, h, VRelB_rep h n⟩
theorem evX_pick {c : Nat} {b : Bool} {x : AX} (he : ER P W w nx env aenv) (hg : GH aenv gs) (hc : aenv.get c = .bool b) : VRel P W w nx (evX env ((c, b) :: gs) x) (ev aenv x) :=
 evX_rel he (fun g hg' => by
  rcases List.mem_cons.1 hg' with rfl | hg'
  ·exact hc
  ·exact hg g hg') x
set_option maxHeartbeats 1600000 in
theorem encE_clen (t : Ty) (x : El t) : (encE t x).cells.length = szE t := by
 cases t <;> simp [encE, AV.cells, szE]
 exact Uni.len _ _
structure ArrR (P : Program) (W : World) (w : Wd) (hp : List (Nat × LObj)) (σ : AH) (h : Nat) (t : Ty) (l : List (El t)) (n c : Nat) (ys rest : List AV) : Prop where
 tk : w.tk h = .own (w.ρ h) n c
 len : l.length = n
 cap : n ≤ c
 max : c < 9223372036854775808
 at_ : σ (w.ρ h) = some (.cells (ys ++ rest))
 eq : ys.map AV.bare1 = (l.map (encE t)).flatMap AV.cells
 ob : ∃ tk, hlk hp h = some (.ob .arr [.lst t l tk, .sl (szE t) h])
theorem arr_rel (hh : HO P W w nx hp σ) {sz h : Nat} {t : Ty} {l : List (El t)} {tk : VTok} (k : arrV hp sz h = some (.lst t l tk)) : szE t = sz ∧ h < nx ∧ ∃ n c ys rest, ArrR P W w hp σ h t l n c ys rest := by
 unfold arrV at k
 split at k
 ·rename_i kk t' l' tk' sz' h' ho
  split at k
  ·rename_i hc
   obtain ⟨rfl, rfl, rfl, hs⟩ := hc
   cases k
   obtain ⟨ao, h1, as, h2, h3⟩ := hh _ _ ho
   simp only [OK.rel] at h3
   obtain ⟨sz, b, n, c, xs, tt, ys, rest, rfl, rfl, h5, h6, h7, h8⟩ := h3
   simp only [VRelL, VRel] at h2
   obtain ⟨a1, r1, e1, ⟨tok, rfl, _⟩, a2, r2, rfl, ⟨hlt, n', c', htk, rfl⟩, rfl⟩ := h2
   simp only [List.cons.injEq, AV.lst.injEq, AV.slc.injEq, and_true, true_and] at e1
   obtain ⟨⟨rfl, rfl, rfl⟩, rfl, rfl, rfl, rfl⟩ := e1
   exact ⟨hs, hlt, _, _, ys, rest, ⟨htk, by simpa using h5, h6, h7, h1, h8, tk', by rw [ho, hs]⟩⟩
  ·cases k
 ·cases k
theorem arr_at {t : Ty} {l : List (El t)} {ys : List AV} {i : Int} (h : ys.map AV.bare1 = (l.map (encE t)).flatMap AV.cells) (h0 : 0 ≤ i) (h1 : i < l.length) :
  ((ys.drop (i.toNat * szE t)).take (szE t)).map AV.bare1 = (encE t (nth (dflE t) l i)).cells ∧ ys.length = l.length * szE t := by
 have hs : ∀ x ∈ l.map (encE t), x.cells.length = szE t := fun x hx => by
  obtain ⟨y, _, rfl⟩ := List.mem_map.1 hx
  exact encE_clen _ _
 have hj : i.toNat < l.length := by omega
 constructor
 ·rw [List.map_take, List.map_drop, h, ← flatMap_drop hs]
  have hn : nth (dflE t) l i = l[i.toNat] := by simp [nth, List.getD_eq_getElem?_getD, hj]
  rw [hn, ← List.map_drop, List.drop_eq_getElem_cons hj, List.map_cons, List.flatMap_cons]
  rw [List.take_append_of_le_length (by rw [encE_clen]; exact Nat.le_refl _), List.take_of_length_le (by rw [encE_clen]; exact Nat.le_refl _)]
 ·have hl : ∀ xs : List AV, (∀ x ∈ xs, x.cells.length = szE t) → (xs.flatMap AV.cells).length = xs.length * szE t := by
   intro xs
   induction xs with
   | nil => intro _; simp
   | cons x xs ih =>
     intro hx
     rw [List.flatMap_cons, List.length_append, ih fun y hy => hx y (List.mem_cons_of_mem _ hy), hx x (by simp), List.length_cons, Nat.succ_mul]; omega
  have := congrArg List.length h
  rw [List.length_map, hl _ hs, List.length_map] at this
  exact this
theorem bareE_cells {a : AV} {t : Ty} {x : El t} (h : a.bare = encE t x) : a.cells.map AV.bare1 = (encE t x).cells := by
 rw [← h]
 cases a <;> simp [AV.bare, AV.cells, AV.bare1]
theorem setAt_append_left : ∀ (xs ys rest : List AV) (o : Nat), o + xs.length ≤ ys.length → setAt (ys ++ rest) o xs = setAt ys o xs ++ rest
 | [], _, _, _, _ => rfl
 | x :: xs, ys, rest, o, h => by
   simp only [List.length_cons] at h
   simp only [setAt]
   rw [List.set_append_left _ _ (by omega)]
   exact setAt_append_left xs (ys.set o x) rest (o + 1) (by rw [List.length_set]; omega)
theorem setAt_getElem? : ∀ (xs ys : List AV) (o j : Nat), o + xs.length ≤ ys.length → (setAt ys o xs)[j]? = if o ≤ j ∧ j < o + xs.length then xs[j - o]? else ys[j]?
 | [], ys, o, j, _ => by simp only [setAt, List.length_nil]; rw [if_neg (by omega)]
 | x :: xs, ys, o, j, h => by
   simp only [List.length_cons] at h
   simp only [setAt]
   rw [setAt_getElem? xs (ys.set o x) (o + 1) j (by rw [List.length_set]; omega)]
   simp only [List.length_cons]
   by_cases h1 : j = o
   ·subst h1
    rw [if_neg (by omega), if_pos (by omega), List.getElem?_set_self (by omega)]; simp
   ·by_cases h2 : o + 1 ≤ j ∧ j < o + 1 + xs.length
    ·rw [if_pos h2, if_pos (by omega), show j - o = (j - (o + 1)) + 1 by omega, List.getElem?_cons_succ]
    ·rw [if_neg h2, if_neg (by omega), List.getElem?_set_ne (Ne.symm h1)]
theorem setAt_length : ∀ (xs ys : List AV) (o : Nat), (setAt ys o xs).length = ys.length
 | [], _, _ => rfl
 | x :: xs, ys, o => by simp only [setAt]; rw [setAt_length xs]; simp
theorem setIV_rel {k : IntKind} {x i : Int} : ∀ (col : List VV) (bs : List AV) (j : Nat) (l : List VV), setIV k x i j col = some l → VRelL P W w nx col bs → (j : Int) ≤ i → VRelL P W w nx l (bs.set (i.toNat - j) (.int k x))
 | [], bs, j, l, h, hr, hj => by
   simp only [VRelL] at hr; subst hr
   cases h; simp [VRelL]
 | v :: r, bs, j, l, h, hr, hj => by
   cases v <;> simp only [setIV] at h <;> try (cases h; done)
   rename_i k' y
   split at h
   ·rename_i hk
    subst hk
    split at h
    ·rename_i l' hl'
     cases h
     simp only [VRelL] at hr
     obtain ⟨a, r', rfl, h1, h2⟩ := hr
     simp only [VRel] at h1
     by_cases hij : i = (j : Int)
     ·subst hij
      have e : ∀ (r : List VV) (bs : List AV) (j' : Nat) (l : List VV), (j : Int) < j' → setIV k' x (j : Int) j' r = some l → VRelL P W w nx r bs → VRelL P W w nx l bs := by
       intro r
       induction r with
       | nil => intro bs j' l _ h hr; cases h; exact hr
       | cons v r ih =>
         intro bs j' l hlt h hr
         cases v <;> simp only [setIV] at h <;> try (cases h; done)
         split at h
         ·rename_i hk
          subst hk
          split at h
          ·rename_i l2 hl2
           cases h
           simp only [VRelL] at hr ⊢
           obtain ⟨a, r', rfl, h1, h2⟩ := hr
           refine ⟨a, r', rfl, ?_, ih r' (j' + 1) l2 (by omega) hl2 h2⟩
           rw [if_neg (by omega)]; exact h1
          ·cases h
         ·cases h
      simp only [Int.toNat_natCast, Nat.sub_self, List.set_cons_zero, VRelL]
      refine ⟨_, _, rfl, by simp [VRel], e r r' (j + 1) l' (by omega) hl' h2⟩
     ·have hlt : (j : Int) < i := by omega
      rw [show i.toNat - j = (i.toNat - (j + 1)) + 1 by omega, List.set_cons_succ]
      simp only [VRelL]
      refine ⟨_, _, rfl, by rw [if_neg hij]; simpa only [VRel] using h1, setIV_rel r r' (j + 1) l' hl' h2 (by omega)⟩
    ·cases h
   ·cases h
theorem setAt_whole (xs ys : List AV) (h : ys.length = xs.length) : setAt ys 0 xs = xs := by
 apply List.ext_getElem?
 intro j
 rw [setAt_getElem? _ _ _ _ (by omega)]
 split
 ·simp
 ·rename_i hn
  rw [List.getElem?_eq_none (by omega), List.getElem?_eq_none (by omega)]
theorem flat_get {t : Ty} {l : List (El t)} {k j : Nat} (hk : k < l.length) (hj : j < szE t) : ((l.map (encE t)).flatMap AV.cells)[k * szE t + j]? = (encE t (l[k])).cells[j]? := by
 have hs : ∀ x ∈ l.map (encE t), x.cells.length = szE t := fun x hx => by
  obtain ⟨y, _, rfl⟩ := List.mem_map.1 hx
  exact encE_clen _ _
 rw [← List.getElem?_drop, ← flatMap_drop hs, ← List.map_drop, List.drop_eq_getElem_cons hk, List.map_cons, List.flatMap_cons, List.getElem?_append_left (by rw [encE_clen]; exact hj)]
theorem flat_len (t : Ty) (l : List (El t)) : ((l.map (encE t)).flatMap AV.cells).length = l.length * szE t := by
 induction l with
 | nil => simp
 | cons x l ih => rw [List.map_cons, List.flatMap_cons, List.length_append, ih, encE_clen, List.length_cons, Nat.succ_mul]; omega
theorem arr_set {t : Ty} {l : List (El t)} {ys xs : List AV} {i : Int} {o : Nat} {e : El t} (h : ys.map AV.bare1 = (l.map (encE t)).flatMap AV.cells) (h0 : 0 ≤ i) (h1 : i < l.length) (ho : o + xs.length ≤ szE t)
  (hn : (setAt ((ys.drop (i.toNat * szE t)).take (szE t)) o xs).map AV.bare1 = (encE t e).cells) :
  (setAt ys (i.toNat * szE t + o) xs).map AV.bare1 = ((l.set i.toNat e).map (encE t)).flatMap AV.cells := by
 have hj : i.toNat < l.length := by omega
 have hyl : ys.length = l.length * szE t := by have := congrArg List.length h; rwa [List.length_map, flat_len] at this
 have hk1 : i.toNat * szE t + szE t ≤ ys.length := by rw [hyl, ← Nat.succ_mul]; exact Nat.mul_le_mul_right _ (by omega)
 apply List.ext_getElem?
 intro p
 rcases Nat.lt_or_ge p ys.length with hp | hp
 ·have hz : 0 < szE t := by
   rcases Nat.eq_zero_or_pos (szE t) with hz | hz
   ·rw [hyl, hz] at hp; omega
   ·exact hz
  have hdm : p = p / szE t * szE t + p % szE t := by rw [Nat.mul_comm]; exact (Nat.div_add_mod _ _).symm
  have hq : p % szE t < szE t := Nat.mod_lt _ hz
  have hk : p / szE t < l.length := by rw [Nat.div_lt_iff_lt_mul hz, ← hyl]; exact hp
  have e1 : ((l.set i.toNat e).map (encE t)).flatMap AV.cells = ((l.set i.toNat e).map (encE t)).flatMap AV.cells := rfl
  have e2 := flat_get (l := l.set i.toNat e) (k := p / szE t) (j := p % szE t) (by rw [List.length_set]; exact hk) hq
  rw [← hdm] at e2
  rw [e2, List.getElem?_map, setAt_getElem? _ _ _ _ (by omega)]
  by_cases hki : p / szE t = i.toNat
  ·have e3 : (l.set i.toNat e)[p / szE t]'(by rw [List.length_set]; exact hk) = e := by simp [hki]
   rw [e3, ← hn, List.getElem?_map, setAt_getElem? _ _ _ _ (by rw [List.length_take, List.length_drop]; omega)]
   rw [hki] at hdm
   by_cases hin : o ≤ p % szE t ∧ p % szE t < o + xs.length
   ·rw [if_pos (by omega), if_pos hin]
    congr 2; omega
   ·rw [if_neg (by omega), if_neg hin, List.getElem?_take, if_pos hq, List.getElem?_drop, ← hdm]
  ·have e3 : (l.set i.toNat e)[p / szE t]'(by rw [List.length_set]; exact hk) = l[p / szE t] := by
    rw [List.getElem_set_ne (Ne.symm hki)]
   rw [e3, if_neg]
   ·have e4 := flat_get (l := l) hk hq
    rw [← hdm, ← h, List.getElem?_map] at e4
    exact e4
   ·rintro ⟨g1, g2⟩
    apply hki
    have hle : i.toNat * szE t ≤ p := by omega
    have hlt : p < (i.toNat + 1) * szE t := by rw [Nat.succ_mul]; omega
    exact Nat.div_eq_of_lt_le hle hlt
 ·rw [List.getElem?_eq_none (by rw [List.length_map, setAt_length]; exact hp), List.getElem?_eq_none (by rw [flat_len, List.length_set, ← hyl]; exact hp)]
theorem wholeE_rel {t : Ty} {e : El t} {v : VV} {as : List AV} (h : wholeE t e = some v) (ha : as.map AV.bare1 = (encE t e).cells) : as.all AV.one = true ∧ VRel P W w nx v (.agg as) := by
 unfold wholeE at h
 split at h
 ·rename_i m x
  cases h
  have h5 := Uni.one m x
  have h6 : (encE (.nm m) x).cells.all AV.one = true := h5
  rw [← ha, all_one_bare1] at h6
  exact ⟨h6, by simp only [VRel]; exact ⟨_, rfl, ha⟩⟩
 ·cases h
theorem drop_in {ys rest : List AV} {k o n sz : Nat} (h : o + n ≤ sz) (hk : k + sz ≤ ys.length) : ((ys ++ rest).drop (k + o)).take n = (((ys.drop k).take sz).drop o).take n := by
 rw [List.drop_append_of_le_length (by omega), List.take_append_of_le_length (by rw [List.length_drop]; omega), List.drop_take, List.take_take, List.drop_drop]
 congr 1
 omega
theorem aggV_rel5 {v : VV} {a : AV} {xs : List VV} (h : aggV v = some xs) (hv : VRel P W w nx v a) : ∃ as, a = .agg as ∧ VRelL P W w nx xs as := by
 unfold aggV at h
 split at h
 ·cases h; simpa only [VRel] using hv
 ·cases h
  simp only [VRel] at hv
  obtain ⟨as, rfl, hv⟩ := hv
  exact ⟨as, rfl, cellsF_rel 8 (.nm _) _ as (by simpa [encE, AV.cells] using hv)⟩
 ·cases h
theorem intsV_rel {vs : List VV} {k : IntKind} {l : List Int} {as : List AV} (h : intsV vs = some (k, l)) (hr : VRelL P W w nx vs as) : as.map AV.bare = l.map (encE (.int k)) := by
 unfold intsV at h
 split at h
 ·cases h
 ·rename_i k' x r
  split at h
  ·rename_i l' hl
   cases h
   exact optAll_rel5 hl hr
  ·cases h
 ·cases h
theorem ints_of {k : IntKind} : ∀ {as : List AV} {l : List Int}, as.map AV.bare = l.map (encE (.int k)) → intsOf as = some (l.map fun n => (k, n))
 | [], [], _ => rfl
 | [], _ :: _, h => by simp at h
 | _ :: _, [], h => by simp at h
 | a :: as, n :: l, h => by
   simp only [List.map_cons, List.cons.injEq] at h
   have h1 := h.1
   simp only [encE] at h1
   have ha : a = .int k n := by cases a <;> simp [AV.bare] at h1 ⊢; exact h1
   subst ha
   rw [intsOf, ints_of h.2]; rfl
theorem opOK {hd : Bool} {op : AOp} {pv : PV} (he : ER P W w nx env aenv) (hg : GH aenv gs) (hh : HO P W w nx hp σ) (h : opV hd hp env gs op = some pv) (hc : optP pv.c) : OpOK P W w nx aenv σ hd op pv := by
 cases op with
 | mv x =>
   simp only [opV, val] at h; cases h
   exact .mk' rfl rfl fun K hk => hk _ (evX_rel he hg x)
 | bin op x y => exact opOK_bin he hg h hc
 | pick c a b =>
   cases c with
   | c v => simp [opV] at h
   | t c =>
     simp only [opV] at h
     split at h
     ·rename_i e hce
      have rc := evX_rel he hg (.t c)
      rw [hce] at rc
      simp only [VRel, ev] at rc
      have key : ∀ y : Bool, pv = ⟨none, none, .bool y⟩ → (e = true → ev aenv a = .bool y) → (e = false → ev aenv b = .bool y) → OpOK P W w nx aenv σ hd (.pick (.t c) a b) pv := by
       rintro y rfl h1 h2
       refine .mk' rfl rfl fun K hk => ?_
       simp only [wpA, ev, rc]
       cases e with
       | true => rw [if_pos rfl]; exact hk _ (by simp only [VRel]; exact h1 rfl)
       | false => rw [if_neg (by simp)]; exact hk _ (by simp only [VRel]; exact h2 rfl)
      split at h
      ·split at h
       ·rename_i y hy
        simp only [val, Option.some.injEq] at h
        refine key _ h.symm (fun h => by subst h; simp [ev]) fun h => ?_
        subst h
        have := evX_pick (x := b) he hg rc
        rw [hy] at this
        simpa [VRel] using this
       ·cases h
      ·split at h
       ·rename_i y hy
        simp only [val, Option.some.injEq] at h
        refine key _ h.symm (fun h => ?_) (fun h => by subst h; simp [ev])
        subst h
        have := evX_pick (x := a) he hg rc
        rw [hy] at this
        simpa [VRel] using this
       ·cases h
      ·split at h
       ·rename_i x y hx hy
        simp only [val, Option.some.injEq] at h
        refine key _ h.symm (fun h => ?_) (fun h => ?_)
        ·subst h
         have := evX_pick (x := a) he hg rc
         rw [hx] at this
         simpa [VRel] using this
        ·subst h
         have := evX_pick (x := b) he hg rc
         rw [hy] at this
         simpa [VRel] using this
       ·cases h
     ·cases h
 | beq neg x y =>
   simp only [opV] at h
   split at h
   ·rename_i a b h1 h2
    have rx := evX_rel he hg x; have ry := evX_rel he hg y
    rw [h1] at rx; rw [h2] at ry
    simp only [VRel] at rx ry
    simp only [val, Option.some.injEq] at h; subst h
    refine .mk' rfl rfl fun K hk => ?_
    simp only [wpA, rx, ry]
    exact hk _ (by cases neg <;> cases a <;> cases b <;> simp [VRel])
   ·cases h
 | un op x =>
   cases op with
   | not =>
     simp only [opV] at h
     split at h
     ·rename_i a h1
      have rx := evX_rel he hg x
      rw [h1] at rx
      simp only [VRel] at rx
      simp only [val, Option.some.injEq] at h; subst h
      refine .mk' rfl rfl fun K hk => ?_
      simp only [wpA, unA, rx]
      exact hk _ (by simp [VRel])
     ·cases h
   | neg =>
     simp only [opV] at h
     split at h
     ·rename_i k a h1
      have rx := evX_rel he hg x
      rw [h1] at rx
      simp only [VRel] at rx
      cases h
      refine .mk' rfl rfl fun K hk => ?_
      simp only [wpA, unA, rx]
      rw [inR_wrap hc]
      exact hk _ (by simp [VRel])
     ·cases h
   | _ => simp [opV] at h
 | slen x =>
   simp only [opV] at h
   split at h
   ·rename_i s h1
    have rx := evX_rel he hg x
    rw [h1] at rx
    simp only [VRel] at rx
    cases hd with
    | true =>
      simp only [val, Option.some.injEq] at h; subst h
      refine ⟨fun h => (by cases h), fun _ _ K hk => ?_⟩
      simp only [wpH, rx]
      exact hk _ (by simp [VRel])
    | false =>
      simp only [Option.some.injEq] at h; subst h
      refine ⟨fun _ K hk => ?_, fun h => (by cases h)⟩
      simp only [wpA, rx]
      exact fun hs => hk _ (by simp [VRel]) hs
   ·cases h
 | len x =>
   simp only [opV] at h
   split at h
   ·rename_i t l tk h1
    have rx := evX_rel he hg x
    rw [h1] at rx
    simp only [VRel] at rx
    obtain ⟨tok, rx, _⟩ := rx
    cases hd with
    | true =>
      simp only [val, Option.some.injEq] at h; subst h
      refine ⟨fun h => (by cases h), fun _ _ K hk => ?_⟩
      simp only [wpH, rx]
      exact hk _ (by simp [VRel])
    | false =>
      simp only [Option.some.injEq] at h; subst h
      refine ⟨fun _ K hk => ?_, fun h => (by cases h)⟩
      simp only [wpA, rx, List.length_map]
      exact fun hs => hk _ (by simp [VRel]) hs
   ·rename_i sz xs tk h1
    have rx := evX_rel he hg x
    rw [h1] at rx
    simp only [VRel] at rx
    obtain ⟨ys, tok, rx, hb, _⟩ := rx
    have lenB : ∀ {cs : List VV} {ds : List AV}, VRelB P W w nx cs ds → ds.length = cs.length := by
     intro cs
     induction cs with
     | nil => intro ds h; simp only [VRelB] at h; subst h; rfl
     | cons c cs ih => intro ds h; simp only [VRelB] at h; obtain ⟨a, r, rfl, _, h⟩ := h; simp [ih h]
    have hl := lenB hb
    simp only [val, Option.some.injEq] at h; subst h
    refine ⟨fun _ K hk => ?_, fun _ _ K hk => ?_⟩
    ·simp only [wpA, rx]
     exact fun _ => hk _ (by simp [VRel, hl]) trivial
    ·simp only [wpH, rx]
     exact hk _ (by simp [VRel, hl])
   ·rename_i sz hh' h1
    have rx := evX_rel he hg x
    rw [h1] at rx
    simp only [VRel] at rx
    obtain ⟨hlt, n, c, htk, rx⟩ := rx
    split at h
    ·rename_i t l tk h2
     obtain ⟨_, _, n', c', ys, rest, hA⟩ := arr_rel hh h2
     have hnn : n = n' := by have := htk.symm.trans hA.tk; injection this
     simp only [val, Option.some.injEq] at h; subst h
     refine ⟨fun _ K hk => ?_, fun _ _ K hk => ?_⟩
     ·simp only [wpA, rx]
      exact hk _ (by simp [VRel, hA.len, hnn]) trivial
     ·simp only [wpH, rx]
      exact hk _ (by simp [VRel, hA.len, hnn])
    ·cases h
   ·cases h
 | idx x i =>
   simp only [opV] at h
   split at h
   ·rename_i s k i' h1 h2
    have rx := evX_rel he hg x; have ry := evX_rel he hg i
    rw [h1] at rx; rw [h2] at ry
    simp only [VRel] at rx ry
    cases h
    refine .mk' rfl rfl fun K hk => ?_
    simp only [wpA, rx, ry]
    exact ⟨hc.1, hc.2, hk _ (by simp [VRel])⟩
   ·cases h
 | ia sz x i =>
   simp only [opV] at h
   split at h
   ·rename_i t l tk k i' h1 h2
    split at h
    ·rename_i hs
     have rx := evX_rel he hg x; have ry := evX_rel he hg i
     rw [h1] at rx; rw [h2] at ry
     simp only [VRel] at rx ry
     obtain ⟨tok, rx, _⟩ := rx
     cases h
     have hc' : 0 ≤ i' ∧ i' < l.length := hc
     refine .mk' rfl rfl fun K hk => ?_
     simp only [wpA, rx, ry, List.length_map]
     refine ⟨hs, hc'.1, hc'.2, hk _ ?_⟩
     rw [nth_map _ _ (by omega)]
     simp only [VRel]
     exact ⟨_, rfl, encE_cells_bare _ _⟩
    ·cases h
   ·rename_i sz' hh' k i' h1 h2
    split at h
    ·rename_i hs
     subst hs
     have rx := evX_rel he hg x; have ry := evX_rel he hg i
     rw [h1] at rx; rw [h2] at ry
     simp only [VRel] at rx ry
     obtain ⟨hlt, n, c, htk, rx⟩ := rx
     split at h
     ·rename_i t l tk h3
      obtain ⟨_, _, n', c', ys, rest, hA⟩ := arr_rel hh h3
      have hnn : n = n' := by have := htk.symm.trans hA.tk; injection this
      cases h
      have hc' : 0 ≤ i' ∧ i' < l.length := hc
      have hl := hA.len
      refine .mk' rfl rfl fun K hk => ?_
      simp only [wpA, rx, ry]
      refine ⟨trivial, hc'.1, by omega, hk _ ?_⟩
      simp only [VRel]
      exact ⟨hlt, n, c, htk, hc'.1, by omega, by simp⟩
     ·cases h
    ·cases h
   ·rename_i sz' v vs tk k i' h1 h2
    split at h
    ·rename_i hs
     subst hs
     split at h
     ·rename_i t ht
      split at h
      ·rename_i hsz
       split at h
       ·rename_i l hl
        have rx := evX_rel he hg x; have ry := evX_rel he hg i
        rw [h1] at rx; rw [h2] at ry
        simp only [VRel] at rx ry
        obtain ⟨ys, tok, rx, rb, _⟩ := rx
        have hb := asF_rel 8 (.lst t) (.vls sz' (v :: vs) .none) l (.lst sz' ys .none) hl (by simp only [VRel]; exact ⟨ys, .none, rfl, rb, trivial⟩)
        simp only [AV.bare, encE, AV.lst.injEq] at hb
        obtain ⟨_, hys, _⟩ := hb
        cases h
        have hc' : 0 ≤ i' ∧ i' < l.length := hc
        refine .mk' rfl rfl fun K hk => ?_
        simp only [wpA, rx, ry, hys, List.length_map]
        refine ⟨trivial, hc'.1, hc'.2, hk _ ?_⟩
        rw [nth_map _ _ (by omega)]
        simp only [VRel]
        exact ⟨_, rfl, encE_cells_bare _ _⟩
       ·cases h
      ·cases h
     ·cases h
    ·cases h
   ·cases h
 | nilq neg x =>
   have rx := evX_rel he hg x
   simp only [opV] at h
   split at h
   ·rename_i t y l tk hx
    rw [hx] at rx
    simp only [VRel] at rx
    obtain ⟨tok, rx, _⟩ := rx
    simp only [val, Option.some.injEq] at h; subst h
    refine .mk' rfl rfl fun K hk => ?_
    simp only [wpA, rx]
    intro b hb
    rw [hb (by simp)]
    exact hk _ (by simp only [VRel])
   ·rename_i sz y l tk hx
    rw [hx] at rx
    simp only [VRel] at rx
    obtain ⟨ys, tok, rx, rb, _⟩ := rx
    simp only [val, Option.some.injEq] at h; subst h
    refine .mk' rfl rfl fun K hk => ?_
    simp only [wpA, rx]
    intro b hb
    rw [hb (by simp only [VRelB] at rb; obtain ⟨_, _, rfl, _⟩ := rb; simp)]
    exact hk _ (by simp only [VRel])
   ·cases h
 | iaA n sz x i =>
   simp only [opV] at h
   split at h
   ·rename_i hd' o k i' h1 h2
    split at h
    ·rename_i hs
     subst hs
     have rx := evX_rel he hg x; have ry := evX_rel he hg i
     rw [h1] at rx; rw [h2] at ry
     simp only [VRel] at rx ry
     cases h
     have hc' : 0 ≤ i' ∧ i' < n := hc
     refine .mk' rfl rfl fun K hk => ?_
     simp only [wpA, rx.2, ry]
     exact ⟨hc'.1, hc'.2, hk _ (by simp only [VRel]; exact ⟨rx.1, hc'.1, hc'.2, by rw [Nat.mul_one]⟩)⟩
    ·cases h
   ·cases h
 | fa off n x =>
   simp only [opV] at h
   have rx := evX_rel he hg x
   split at h
   ·rename_i hd' o h1
    rw [h1] at rx
    simp only [VRel] at rx
    simp only [val, Option.some.injEq] at h; subst h
    refine .mk' rfl rfl fun K hk => ?_
    simp only [wpA, rx.2]
    exact hk _ (by simp [VRel, rx.1])
   ·rename_i sz hh' i' o h1
    rw [h1] at rx
    simp only [VRel] at rx
    obtain ⟨hlt, n', c, htk, h0, hi, rx⟩ := rx
    simp only [val, Option.some.injEq] at h; subst h
    refine .mk' rfl rfl fun K hk => ?_
    simp only [wpA, rx]
    exact hk _ (by simp only [VRel]; exact ⟨hlt, n', c, htk, h0, hi, by rw [Nat.add_assoc]⟩)
   ·rename_i v hv _
    split at h
    ·rename_i xs hx
     split at h
     ·rename_i hle
      simp only [val, Option.some.injEq] at h; subst h
      refine .mk' rfl rfl fun K hk => ?_
      have : ∃ as, ev aenv x = .elt as ∧ VRelL P W w nx xs as := by
       unfold deref at hx
       split at hx
       ·rename_i h2; cases hx; rw [h2] at rx; simpa only [VRel] using rx
       ·rename_i h2; cases hx; rw [h2] at rx
        simp only [VRel] at rx
        obtain ⟨as, r1, r2⟩ := rx
        exact ⟨as, r1, cellsF_rel _ _ _ _ r2⟩
       ·rename_i h2 _ h3; exact absurd h3 (by intro h4; exact hv _ _ h4)
       ·cases hx
      obtain ⟨as, r1, r2⟩ := this
      simp only [wpA, r1]
      refine ⟨by rw [r2.length]; exact hle, hk _ ?_⟩
      simp only [VRel]
      exact ⟨_, rfl, (r2.drop off).take n⟩
     ·cases h
    ·cases h
 | nilck x =>
   simp only [opV] at h
   have rx := evX_rel he hg x
   split at h
   ·rename_i xs h1
    rw [h1] at rx
    simp only [val, Option.some.injEq] at h; subst h
    have rx' := rx
    simp only [VRel] at rx
    obtain ⟨as, r1, r2⟩ := rx
    refine .mk' rfl rfl fun K hk => ?_
    simp only [wpA, r1]
    exact hk _ (by rw [← r1]; exact rx')
   ·rename_i xs x' h1
    rw [h1] at rx
    simp only [val, Option.some.injEq] at h; subst h
    have rx' := rx
    simp only [VRel] at rx
    obtain ⟨as, r1, r2⟩ := rx
    refine .mk' rfl rfl fun K hk => ?_
    simp only [wpA, r1]
    exact hk _ (by rw [← r1]; exact rx')
   ·rename_i hd' o h1
    rw [h1] at rx
    simp only [val, Option.some.injEq] at h; subst h
    have rx' := rx
    simp only [VRel] at rx
    refine .mk' rfl rfl fun K hk => ?_
    simp only [wpA, rx.2]
    exact hk _ (by rw [← rx.2]; exact rx')
   ·rename_i sz hh' i' o h1
    rw [h1] at rx
    simp only [val, Option.some.injEq] at h; subst h
    have rx' := rx
    simp only [VRel] at rx
    obtain ⟨_, _, _, _, _, _, rx⟩ := rx
    refine .mk' rfl rfl fun K hk => ?_
    simp only [wpA, rx]
    exact hk _ (by rw [← rx]; exact rx')
   ·cases h
 | ld g n x =>
   have rx := evX_rel he hg x
   have gen : g = true → ∀ xs, deref hp (evX env gs x) = some xs → 0 < n → n ≤ xs.length → (xs.take n).all VV.okc = true → pv = ⟨none, none, .agg (xs.take n)⟩ → OpOK P W w nx aenv σ hd (.ld g n x) pv := by
    rintro rfl xs hx hpos hle hok rfl
    refine .mk' rfl rfl fun K hk => ?_
    rcases deref_rel hh hx rx with ⟨as, r1, r2⟩ | ⟨b, o, as, r1, r2, r3⟩
    ·simp only [wpA, r1, if_true]
     exact ⟨by rw [r2.length]; exact hle, hk _ (by simp only [VRel]; exact ⟨_, rfl, r2.take n⟩)⟩
    ·simp only [wpA, r1, r2, if_true]
     have hl := r3.length
     rw [List.length_drop] at hl
     refine ⟨?_, okcL_one hok (r3.take n), hk _ (by simp only [VRel]; exact ⟨_, rfl, r3.take n⟩)⟩
     omega
   simp only [opV] at h
   split at h
   ·rename_i hh' o m i' h1
    rw [h1] at rx
    simp only [VRel] at rx
    obtain ⟨hlt, h0, hi, rx⟩ := rx
    split at h
    ·rename_i vs hvs
     split at h
     ·rename_i hle
      cases hcv : colV i' ((vs.drop o).take m) with
      | none => rw [hcv] at h; cases h
      | some v =>
        rw [hcv] at h
        simp only [optV, Option.some.injEq] at h; subst h
        obtain ⟨ao, g1, g2⟩ := hh _ _ hvs
        obtain ⟨as, rfl, g3⟩ := ORel_cells.1 g2
        have hl := g3.length
        obtain ⟨a, g4, g5⟩ := colV_rel hcv ((g3.drop o).take m) (by rw [List.length_take, List.length_drop]; omega)
        rw [List.getElem?_take, if_pos (by omega), List.getElem?_drop] at g4
        refine .mk' rfl rfl fun K hk => ?_
        simp only [wpA, rx, g1, Bool.false_eq_true, if_false]
        refine ⟨by omega, hk _ ?_⟩
        rw [List.getD_eq_getElem?_getD, g4]
        exact g5
     ·cases h
    ·cases h
   ·rename_i sz hh' i' o h1
    rw [h1] at rx
    simp only [VRel] at rx
    obtain ⟨hlt, n', c, htk, h0, hi, rx⟩ := rx
    split at h
    ·rename_i t l tk h3
     obtain ⟨hsz, _, n'', c', ys, rest, hA⟩ := arr_rel hh h3
     subst hsz
     have hnn : n' = n'' := by have := htk.symm.trans hA.tk; injection this
     have hl := hA.len
     obtain ⟨ha1, ha2⟩ := arr_at hA.eq h0 (show i' < l.length by omega)
     have hcl := cellsF_rel (P := P) (W := W) (w := w) (nx := nx) 8 t _ _ ha1
     have hlen := hcl.length
     have hk1 : i'.toNat * szE t + szE t ≤ ys.length := by
      rw [ha2, ← Nat.succ_mul]; exact Nat.mul_le_mul_right _ (by omega)
     rw [List.length_take, List.length_drop] at hlen
     have hcs : (cellsF 8 t (nth (dflE t) l i')).length = szE t := by omega
     unfold peV at h
     split at h
     ·split at h
      ·rename_i hcc
       obtain ⟨rfl, rfl, hpos⟩ := hcc
       split at h
       ·rename_i v hwv
        cases h
        refine .mk' rfl rfl fun K hk => ?_
        have e0 := drop_in (rest := rest) (o := 0) (n := szE t) (Nat.le_of_eq (Nat.zero_add _)) hk1
        simp only [Nat.add_zero, List.drop_zero, List.take_take, Nat.min_self] at e0
        simp only [wpA, rx, hA.at_, Nat.add_zero, if_true, e0]
        have hw := wholeE_rel (P := P) (W := W) (w := w) (nx := nx) hwv ha1
        exact ⟨by rw [List.length_append]; omega, hw.1, hk _ hw.2⟩
       ·cases h
      ·split at h
       ·rename_i hcc
        obtain ⟨hpos, hle, hok⟩ := hcc
        cases h
        rw [List.length_drop, hcs] at hle
        refine .mk' rfl rfl fun K hk => ?_
        simp only [wpA, rx, hA.at_, if_true, drop_in (show o + n ≤ szE t by omega) hk1]
        have hv := (hcl.drop o).take n
        exact ⟨by rw [List.length_append]; omega, okcL_one hok hv, hk _ (by simp only [VRel]; exact ⟨_, rfl, hv⟩)⟩
       ·cases h
     ·split at h
      ·rename_i v r hvr
       cases h
       refine .mk' rfl rfl fun K hk => ?_
       have hv := hcl.drop o
       rw [hvr] at hv
       simp only [VRelL] at hv
       obtain ⟨a, ar, har, hv1, _⟩ := hv
       have ho : o < szE t := by
        have := congrArg List.length hvr
        rw [List.length_drop, hcs, List.length_cons] at this; omega
       have e0 := drop_in (rest := rest) (o := o) (n := 1) (show o + 1 ≤ szE t by omega) hk1
       rw [har] at e0
       have e1 : (ys ++ rest).getD (i'.toNat * szE t + o) .any = a := by
        have h7 := congrArg (fun z => z[0]?) e0
        simp only [List.getElem?_take, List.getElem?_drop] at h7
        simp only [List.getD_eq_getElem?_getD]
        simpa using congrArg (fun z => z.getD AV.any) h7
       simp only [wpA, rx, hA.at_, Bool.false_eq_true, if_false]
       exact ⟨by rw [List.length_append]; omega, hk _ (by rw [e1]; exact hv1)⟩
      ·cases h
    ·cases h
   rename_i hnpe _
   split at h
   ·rename_i hgt
    split at h
    ·rename_i v hv
     simp only [val, Option.some.injEq] at h; subst h
     unfold wholeV at hv
     split at hv
     ·rename_i m y hx
      split at hv
      ·rename_i hn
       cases hv
       rw [hx] at rx
       simp only [VRel] at rx
       obtain ⟨as, r1, r2⟩ := rx
       have hlen : as.length = n := by
        rw [← List.length_map (f := AV.bare1), r2, hn]
        simp [encE, AV.cells, Uni.len]
       refine .mk' rfl rfl fun K hk => ?_
       simp only [wpA, r1, if_true]
       refine ⟨by omega, hk _ ?_⟩
       simp only [VRel]
       exact ⟨_, rfl, by rw [List.take_of_length_le (by omega), r2]; simp [encE, AV.cells]⟩
      ·cases hv
     ·cases hv
    ·split at h
     ·rename_i xs hx
      split at h
      ·rename_i hle
       simp only [val, Option.some.injEq] at h
       exact gen rfl xs hx hle.1 hle.2.1 hle.2.2 h.symm
      ·cases h
     ·cases h
   ·split at h
    ·rename_i v r hx
     simp only [val, Option.some.injEq] at h; subst h
     refine .mk' rfl rfl fun K hk => ?_
     rcases deref_rel hh hx rx with ⟨as, r1, r2⟩ | ⟨b, o, as, r1, r2, r3⟩
     ·simp only [VRelL] at r2
      obtain ⟨a, as', rfl, r3, _⟩ := r2
      simp only [wpA, r1, Bool.false_eq_true, if_false]
      exact ⟨by simp, hk _ (by simpa using r3)⟩
     ·simp only [VRelL] at r3
      obtain ⟨a, as', r4, r5, _⟩ := r3
      simp only [wpA, r1, r2, Bool.false_eq_true, if_false]
      have hlt : o < as.length := by
       have := congrArg List.length r4
       rw [List.length_drop] at this
       simp at this; omega
      have hget : as.getD o .any = a := by
       have := congrArg (·[0]?) r4
       simp at this
       simp [List.getD_eq_getElem?_getD, this]
      exact ⟨hlt, hk _ (by rw [hget]; exact r5)⟩
    ·cases h
 | fld g off n x =>
   have rx := evX_rel he hg x
   simp only [opV] at h
   split at h
   ·rename_i xs hx
    have : ∃ as, ev aenv x = .agg as ∧ VRelL P W w nx xs as := by
     unfold aggV at hx
     split at hx
     ·rename_i h2; cases hx; rw [h2] at rx; simpa only [VRel] using rx
     ·rename_i m y h2; cases hx; rw [h2] at rx
      simp only [VRel] at rx
      obtain ⟨as, r1, r2⟩ := rx
      exact ⟨as, r1, cellsF_rel 8 (.nm m) y as (by simpa [encE, AV.cells] using r2)⟩
     ·cases hx
    obtain ⟨as, r1, r2⟩ := this
    split at h
    ·split at h
     ·rename_i hle
      simp only [val, Option.some.injEq] at h; subst h
      refine .mk' rfl rfl fun K hk => ?_
      simp only [wpA, r1, if_true]
      exact ⟨by rw [r2.length]; exact hle.1, hk _ (by simp only [VRel]; exact ⟨_, rfl, (r2.drop off).take n⟩)⟩
     ·cases h
    ·split at h
     ·rename_i hn
      unfold optV at h
      split at h
      ·rename_i v hv
       simp only [Option.some.injEq] at h; subst h
       obtain ⟨a, h1, h2⟩ := r2.get off hv
       have hlt : off < as.length := by
        rcases Nat.lt_or_ge off as.length with h3 | h3
        ·exact h3
        ·rw [List.getElem?_eq_none h3] at h1; cases h1
       refine .mk' rfl rfl fun K hk => ?_
       simp only [wpA, r1, Bool.false_eq_true, if_false]
       exact ⟨by omega, hn, hk _ (by simpa [List.getD_eq_getElem?_getD, h1] using h2)⟩
      ·cases h
     ·cases h
   ·cases h
 | ext i x =>
   have rx := evX_rel he hg x
   simp only [opV] at h
   split at h
   ·rename_i xs hx
    rw [hx] at rx
    simp only [VRel] at rx
    obtain ⟨as, r1, r2⟩ := rx
    unfold optV at h
    split at h
    ·rename_i v hv
     simp only [Option.some.injEq] at h; subst h
     obtain ⟨a, h1, h2⟩ := r2.get i hv
     have hlt : i < as.length := by
      rcases Nat.lt_or_ge i as.length with h3 | h3
      ·exact h3
      ·rw [List.getElem?_eq_none h3] at h1; cases h1
     refine .mk' rfl rfl fun K hk => ?_
     simp only [wpA, r1]
     exact ⟨hlt, hk _ (by simpa [List.getD_eq_getElem?_getD, h1] using h2)⟩
    ·cases h
   ·cases h
 | build zs ps =>
   simp only [opV] at h
   split at h
   ·rename_i hz
    split at h
    ·rename_i cs hcs
     simp only [val, Option.some.injEq] at h; subst h
     obtain ⟨es, h1, h2⟩ := putPs_rel he hg (ofAVs_rel zs) hcs
     refine .mk' rfl rfl fun K hk => ?_
     simp only [wpA, h1]
     exact ⟨okcL_one hz (ofAVs_rel (P := P) (W := W) (w := w) (nx := nx) zs), hk _ (by simp only [VRel]; exact ⟨_, rfl, h2⟩)⟩
    ·cases h
   ·cases h
 | bsl sz len z ps =>
   simp only [opV] at h
   split at h
   ·rename_i hz
    split at h
    ·rename_i cs hcs
     simp only [val, Option.some.injEq] at h; subst h
     simp only [elemOk, Bool.and_eq_true, beq_iff_eq] at hz
     have hzr := cellsV_rel hz.2 (ofAV_rel (P := P) (W := W) (w := w) (nx := nx) z)
     obtain ⟨es, h1, h2⟩ := putEs_rel he hg (VRelB_rep (ofAV_rel z) len) hcs
     refine .mk' rfl rfl fun K hk => ?_
     simp only [wpA, h1]
     exact ⟨by rw [hzr.1.length]; exact hz.1, hzr.2, hk _ (by simp only [VRel]; exact ⟨_, _, rfl, h2, rfl⟩)⟩
    ·cases h
   ·cases h
 | slc sz x lo hi mx =>
   have rx := evX_rel he hg x
   cases mx with
   | none =>
     simp only [opV] at h
     split at h
     ·rename_i t l tk hx
      rw [hx] at rx
      simp only [VRel] at rx
      obtain ⟨tok, r1, _⟩ := rx
      split at h
      ·rename_i hs
       split at h
       ·rename_i c l' hsl
        cases h
        obtain ⟨a, b, hb1, hb2, h0, hab, hbl, rfl⟩ := slcV_spec hsl hc
        have e1 := bndV_rel (x := lo) he hg hb1
        have e2 := bndV_rel (x := hi) he hg hb2
        have hk' : ∀ t', VRel P W w nx (.lst t ((l.take b.toNat).drop a.toNat) .none) (.lst sz (((l.map (encE t)).take b.toNat).drop a.toNat) t') := fun t' => by
         simp only [VRel]
         exact ⟨t', by rw [hs, List.map_drop, List.map_take], trivial⟩
        refine ⟨fun _ K hk => ?_, fun _ _ K hk => ?_⟩
        ·simp only [wpA, r1, List.length_map, e1, e2, Option.map_none]
         refine ⟨hs, h0, hab, hbl, ?_⟩
         split
         ·split
          ·exact hk _ (hk' _) trivial
          ·exact fun t' _ => hk _ (hk' _) trivial
         ·exact hk _ (hk' _) trivial
        ·simp only [wpH, r1, List.length_map, e1, e2, Option.map_none]
         exact ⟨hs, h0, hab, hbl, hk _ (hk' _)⟩
       ·cases h
      ·cases h
     ·cases h
   | some mx =>
     simp only [opV] at h
     split at h
     ·rename_i t l tk a k b k' m hx hb1 hb2 hm
      rw [hx] at rx
      simp only [VRel] at rx
      obtain ⟨tok, r1, _⟩ := rx
      split at h
      ·rename_i hs
       cases h
       obtain ⟨h0, hab, hbm, hbl⟩ := hc
       have e1 := bndV_rel (x := lo) he hg hb1
       have rm := evX_rel he hg mx
       rw [hm] at rm
       simp only [VRel] at rm
       cases hi with
       | none => simp at hb2
       | some hi =>
         simp only [Option.map_some, Option.some.injEq] at hb2
         have rh := evX_rel he hg hi
         rw [hb2] at rh
         simp only [VRel] at rh
         have e2 : ∀ d, bnd d (some (AV.int k b)) = some b := fun _ => rfl
         have hk' : VRel P W w nx (.lst t ((l.take b.toNat).drop a.toNat) .clip) (.lst sz (((l.map (encE t)).take b.toNat).drop a.toNat) .clip) := by
          simp only [VRel]
          exact ⟨.clip, by rw [hs, List.map_drop, List.map_take], rfl⟩
         refine ⟨fun _ K hk => ?_, fun _ _ K hk => ?_⟩
         ·simp only [wpA, r1, List.length_map, e1, Option.map_some, rh, rm, e2]
          exact ⟨hs, h0, hab, hbm, hbl, hk _ hk' trivial⟩
         ·simp only [wpH, r1, List.length_map, e1, Option.map_some, rh, rm, e2]
          exact ⟨hs, h0, hab, hbm, hbl, hk _ hk'⟩
      ·cases h
     ·cases h
 | sub x lo hi =>
   have rx := evX_rel he hg x
   simp only [opV] at h
   split at h
   ·rename_i s hx
    rw [hx] at rx
    simp only [VRel] at rx
    split at h
    ·rename_i a b hb1 hb2
     cases h
     obtain ⟨h0, hab, hbl⟩ := hc
     have e1 := bndV_rel (x := lo) he hg hb1
     have e2 := bndV_rel (x := hi) he hg hb2
     refine .mk' rfl rfl fun K hk => ?_
     simp only [wpA, rx, e1, e2]
     exact ⟨h0, hab, hbl, hk _ (by simp [VRel])⟩
    ·cases h
   ·cases h
 | mkf f first cap =>
   cases f with
   | func f =>
     simp only [opV, val, Option.some.injEq] at h; subst h
     refine .mk' rfl rfl fun K hk => ?_
     simp only [wpA]
     exact hk _ (by simp only [VRel]; exact ⟨_, _, rfl, evX_map he hg _, evX_map he hg _⟩)
   | _ => simp [opV] at h
 | minmax g xs =>
   match xs, h with
   | [x, y], h =>
     simp only [opV] at h
     split at h
     ·rename_i k a k' b h1 h2
      have rx := evX_rel he hg x; have ry := evX_rel he hg y
      rw [h1] at rx; rw [h2] at ry
      simp only [VRel] at rx ry
      split at h
      ·rename_i hk
       simp only [val, Option.some.injEq] at h; subst h
       refine .mk' rfl rfl fun K hk' => ?_
       simp only [wpA, List.map_cons, List.map_nil, rx, ry]
       exact ⟨hk, hk' _ (by cases g <;> simp [VRel])⟩
      ·cases h
     ·cases h
   | [], h => simp [opV] at h
   | [_], h => simp [opV] at h
   | _ :: _ :: _ :: _, h => simp [opV] at h
 | itoi k x =>
   have rx := evX_rel he hg x
   simp only [opV] at h
   split at h
   ·rename_i k' n hx
    rw [hx] at rx
    simp only [VRel] at rx
    cases h
    refine .mk' rfl rfl fun K hk => ?_
    simp only [wpA, rx]
    rw [inR_wrap hc]
    exact hk _ (by simp [VRel])
   ·cases h
 | itos x =>
   have rx := evX_rel he hg x
   simp only [opV] at h
   split at h
   ·rename_i k' n hx
    rw [hx] at rx
    simp only [VRel] at rx
    simp only [val, Option.some.injEq] at h; subst h
    refine .mk' rfl rfl fun K hk => ?_
    simp only [wpA, rx]
    exact hk _ (by simp [VRel])
   ·cases h
 | idxA g n sz x i =>
   have rx := evX_rel he hg x
   have ri := evX_rel he hg i
   simp only [opV] at h
   split at h
   ·rename_i vs k ii hx hi
    rw [hx] at rx; rw [hi] at ri
    simp only [VRel] at rx ri
    obtain ⟨as, r1, r2⟩ := rx
    split at h
    ·rename_i hl
     split at h
     ·rename_i l hcl
      cases h
      have hc' : 0 ≤ ii ∧ ii < n := hc
      refine .mk' rfl rfl fun K hk => ?_
      simp only [wpA, r1, ri, if_true]
      have hin : ii.toNat < n := by omega
      have hmul : (ii.toNat + 1) * sz ≤ n * sz := Nat.mul_le_mul_right _ hin
      refine ⟨hc'.1, hc'.2, by rw [r2.length, hl]; exact hmul, hk _ ?_⟩
      simp only [VRel]
      exact ⟨_, rfl, colsV_rel hl hc' r2 sz (Nat.le_refl _) hcl⟩
     ·cases h
    ·cases h
   ·rename_i v k ii hi
    rw [hi] at ri
    simp only [VRel] at ri
    split at h
    ·rename_i vs hvs
     split at h
     ·rename_i hl
      obtain ⟨hl, rfl⟩ := hl
      split at h
      ·rename_i kk l hkl
       cases h
       have hc' : 0 ≤ ii ∧ ii < n := hc
       obtain ⟨as, r1, r2⟩ := aggV_rel5 hvs rx
       have e := intsV_rel hkl r2
       have hlen : as.length = l.length := by simpa using congrArg List.length e
       have hal := r2.length
       refine .mk' rfl rfl fun K hk => ?_
       simp only [wpA, r1, ri, Bool.false_eq_true, if_false]
       refine ⟨hc'.1, hc'.2, by omega, trivial, hk _ ?_⟩
       have hin : ii.toNat < as.length := by omega
       have h3 : (as.map AV.bare)[ii.toNat]? = (l.map (encE (.int kk)))[ii.toNat]? := by rw [e]
       simp only [List.getElem?_map] at h3
       rw [List.getElem?_eq_getElem hin, List.getElem?_eq_getElem (by omega)] at h3
       simp only [Option.map_some, Option.some.injEq] at h3
       rw [List.getD_eq_getElem?_getD, List.getElem?_eq_getElem hin]
       simp only [Option.getD_some, VRel]
       have h4 : nth (0 : Int) l ii = l[ii.toNat]'(by omega) := by simp [nth, List.getD_eq_getElem?_getD, show ii.toNat < l.length by omega]
       rw [h4]
       revert h3
       generalize as[ii.toNat] = a
       intro h3
       simp only [encE] at h3
       cases a <;> simp [AV.bare] at h3 ⊢
       exact h3
      ·cases h
     ·cases h
    ·cases h
   ·cases h
 | aeq neg n x y =>
   have rx := evX_rel he hg x
   have ry := evX_rel he hg y
   simp only [opV] at h
   split at h
   ·rename_i xs ys hx hy
    split at h
    ·rename_i hl
     split at h
     ·rename_i k is k' js h1 h2
      split at h
      ·rename_i hk
       subst hk
       simp only [val, Option.some.injEq] at h; subst h
       obtain ⟨as, r1, r2⟩ := aggV_rel5 hx rx
       obtain ⟨bs, s1, s2⟩ := aggV_rel5 hy ry
       have q1 := intsV_rel h1 r2
       have q2 := intsV_rel h2 s2
       have l1 : is.length = n := by have := congrArg List.length q1; simp at this; have := r2.length; omega
       have l2 : js.length = n := by have := congrArg List.length q2; simp at this; have := s2.length; omega
       refine .mk' rfl rfl fun K hk => ?_
       simp only [wpA, r1, s1, ints_of q1, ints_of q2]
       refine ⟨by have := r2.length; omega, by have := s2.length; omega, ?_, hk _ ?_⟩
       ·apply List.ext_getElem
        ·simp [l1, l2]
        ·intro i h3 h4; simp
       ·simp only [VRel, AV.bool.injEq]
        congr 1
        rw [Bool.eq_iff_iff]
        simp only [decide_eq_true_eq]
        constructor
        ·intro h3
         have := congrArg (List.map Prod.snd) h3
         simpa [List.map_map, Function.comp_def] using this
        ·rintro rfl; rfl
      ·cases h
     ·cases h
    ·cases h
   ·cases h
 | look ok g z m k =>
   have rm := evX_rel he hg m
   have rk := evX_rel he hg k
   simp only [opV] at h
   split at h
   ·cases h
   ·split at h
    ·rename_i t u es tk hm
     split at h
     ·rename_i kk zz hkk hzz
      split at h
      ·rename_i hko
       split at h
       ·rename_i r hlk1
        simp only [val, Option.some.injEq] at h; subst h
        obtain ⟨hkey, hke⟩ := key_rel' hkk hko rk
        refine ⟨fun _ K hk => ?_, fun hf => by cases hf⟩
        have hz := toVV_rel (P := P) (W := W) (w := w) (nx := nx) (asF_rel (P := P) (W := W) (w := w) (nx := nx) 8 u _ zz z hzz (ofAV_rel z))
        have hres : ∀ x : El u, VRel P W w nx (toVV u x) (encE u x) := fun x => toVV_rel (encE_bare u x)
        rcases mapC_rel hh hm rm with ⟨h1, h2⟩ | ⟨b, es', tok, h1, h2, h3⟩
        ·cases h2
        ·simp only [VRel] at h3
         obtain ⟨tok', h4, _⟩ := h3
         simp only [AV.lst.injEq] at h4
         have h5 := pairs_inj h4.2.1
         subst h5
         simp only [wpA, h1, h2, hke, alook_find hlk1]
         rw [hke] at hkey
         refine ⟨hkey, ?_⟩
         cases r with
         | none =>
           simp only [Option.map_none]
           cases ok with
           | true => exact hk _ (by simp only [VRel]; exact ⟨_, rfl, by simp only [VRelL]; exact ⟨_, _, rfl, hz, _, _, rfl, by simp [VRel], rfl⟩⟩) trivial
           | false => exact hk _ hz trivial
         | some x =>
           simp only [Option.map_some]
           cases ok with
           | true => exact hk _ (by simp only [VRel]; exact ⟨_, rfl, by simp only [VRelL]; exact ⟨_, _, rfl, hres x, _, _, rfl, by simp [VRel], rfl⟩⟩) trivial
           | false => exact hk _ (hres x) trivial
       ·cases h
      ·cases h
     ·cases h
    ·rename_i sz tk hm
     split at h
     ·rename_i t ht
      split at h
      ·rename_i hko
       simp only [val, Option.some.injEq] at h; subst h
       have hkey := key_rel ht hko rk
       refine ⟨fun _ K hk => ?_, fun hf => by cases hf⟩
       have hz : VRel P W w nx (ofAV z) z := ofAV_rel z
       have fin : K (if ok = true then .tup [z, .bool false] else z) σ := by
        cases ok with
        | true => exact hk _ (by simp only [VRel]; exact ⟨_, rfl, by simp only [VRelL]; exact ⟨_, _, rfl, hz, _, _, rfl, by simp [VRel], rfl⟩⟩) trivial
        | false => exact hk _ hz trivial
       rcases mapC_rel hh hm rm with ⟨h1, h2⟩ | ⟨b, es', tok, h1, h2, h3⟩
       ·simp only [wpA, h1]; exact ⟨hkey, fin⟩
       ·simp only [VRel] at h3
        obtain ⟨ys, tok', h4, h5, _⟩ := h3
        simp only [VRelB] at h5
        subst h5
        simp only [AV.lst.injEq, List.map_eq_nil_iff] at h4
        have h6 := h4.2.1
        subst h6
        simp only [wpA, h1, h2, findA]; exact ⟨hkey, fin⟩
      ·cases h
     ·cases h
    ·cases h
 | _ => simp [opV] at h
end
end Go.AL
namespace Go.AL
open Go.RowKit
set_option linter.unusedVariables false
set_option linter.unusedSimpArgs false
set_option linter.unusedSectionVars false
theorem Live.mono {σ τ : AH} {t : Tok} (h : σ.le τ) (hl : Live σ t) : Live τ t := by
 cases t with
 | none => exact hl
 | clip => trivial
 | own b e lim => exact h _ _ hl
theorem AH.le_put_of {σ τ : AH} {b : Nat} {o : AObj} (h : σ.le τ) (hb : σ b = none) : σ.le (τ.put b o) := fun c x hc => by
 have : c ≠ b := by rintro rfl; rw [hb] at hc; cases hc
 rw [AH.put_ne _ _ this]; exact h c x hc
theorem AH.none_le {σ τ : AH} {b : Nat} (h : σ.le τ) (hb : τ b = none) : σ b = none := AH.le_none h hb
structure F0 where
 base : AH
 lo : Option (Nat × AObj)
def AObj.isLoop : AObj → Bool
 | .loop .. => true
 | _ => false
section
variable [Uni3] (P : Program) (W : World)
structure HR (fr0 : F0) (w : Wd) (st : St) (σ : AH) (ds : List Nat) : Prop where
 fr : w.fr.le σ
 base : fr0.base.le w.fr
 obj : HO P W w st.nx st.hp σ
 hlt : ∀ h o, hlk st.hp h = some o → h < st.nx
 hfr : ∀ h o, hlk st.hp h = some o → w.fr (w.ρ h) = none
 inj : ∀ h h' o o', hlk st.hp h = some o → hlk st.hp h' = some o' → w.ρ h = w.ρ h' → h = h'
 llt : ∀ i ∈ st.live, i < st.nx
 live : ∀ i ∈ st.live, Live σ (w.tk i)
 lfr : ∀ i ∈ st.live, ∀ c, (w.tk i).isOn c = true → w.fr c = none
 dist : ∀ i ∈ st.live, ∀ j ∈ st.live, i ≠ j → ∀ c, (w.tk i).isOn c = true → (w.tk j).isOn c = false
 nd : ds.Nodup
 mrk : ∀ b ∈ ds, σ b = some .marks ∧ fr0.base b = none
 lrec : ∀ l o, fr0.lo = some (l, o) → σ l = some o ∧ w.fr l = none ∧ o.isLoop = true
structure CtrOK (g : Nat) (c : Ctr) : Prop where
 pv : ∀ vs pv, c.pv vs = some pv → optP pv.c → ∀ w nx as, VRelL P W w nx vs as → optP pv.h ∧ ∃ V, (∀ a, Sim a V → VRel P W w nx pv.v a) ∧ ∀ σ, w.fr.le σ → ACall P W g as σ fun a σ' => Sim a V ∧ σ.le σ'
 run : ∀ vs st (K : VV → St → Prop), c.run vs st K → ∀ fr0 w σ ds as, HR P W fr0 w st σ ds → VRelL P W w st.nx vs as →
  ACall P W g as σ fun a σ' => ∃ v st' w', K v st' ∧ st'.env = st.env ∧ HR P W fr0 w' st' σ' ds ∧ VRel P W w' st'.nx v a ∧ Wd.le st.nx w w' ∧ st.nx ≤ st'.nx
def CtxOK (Γ : Ctx) : Prop := ∀ g c, Γ g = some c → CtrOK P W g c
variable {P W} {fr0 : F0} {w w' : Wd} {st : St} {σ σ' : AH} {ds : List Nat} {nx nx' : Nat} {env : List (Nat × VV)} {aenv : Env} {gs : List (Nat × Bool)}
theorem ORel.mono (h : Wd.le nx w w') (hn : nx ≤ nx') {o : LObj} {ao : AObj} (k : ORel P W w nx o ao) : ORel P W w' nx' o ao := by
 cases o with
 | ob c vs => obtain ⟨as, k1, k2⟩ := k; exact ⟨as, VRelL.mono h hn _ k1, k2⟩
theorem ORel.mine {o : LObj} {ao : AObj} (k : ORel P W w nx o ao) : ao.mine = true := by
 cases o with
 | ob c vs => obtain ⟨as, k1, k2⟩ := k; exact OK.rel_mine k2
theorem mine_isLoop {o : AObj} (h : o.mine = true) : o.isLoop = false := by cases o <;> first | rfl | cases h
theorem SR.mono (h : Wd.le nx w w') (hn : nx ≤ nx') {v : VV} {a : AV} (k : SR P W w nx aenv v a) : SR P W w' nx' aenv v a := by
 unfold SR at k ⊢
 split at k
 ·exact ⟨fun hg => (k.1 hg).mono h hn, k.2⟩
 ·exact k.mono h hn
theorem ER.mono (he : ER P W w nx env aenv) (h : Wd.le nx w w') (hn : nx ≤ nx') : ER P W w' nx' env aenv := fun t => (he t).mono h hn
theorem HR.grow (h : HR P W fr0 w st σ ds) (hle : σ.le σ') : HR P W fr0 w st σ' ds :=
 ⟨AH.le_trans h.fr hle, h.base, fun x o hx => let ⟨ao, h1, h2⟩ := h.obj x o hx; ⟨ao, hle _ _ h1, h2⟩, h.hlt, h.hfr, h.inj, h.llt, fun i hi => (h.live i hi).mono hle, h.lfr, h.dist, h.nd, fun b hb => ⟨hle _ _ (h.mrk b hb).1, (h.mrk b hb).2⟩, fun l o hl => ⟨hle _ _ (h.lrec l o hl).1, (h.lrec l o hl).2⟩⟩
theorem HR.withEnv (h : HR P W fr0 w st σ ds) (env' : List (Nat × VV)) : HR P W fr0 w { st with env := env' } σ ds := ⟨h.fr, h.base, h.obj, h.hlt, h.hfr, h.inj, h.llt, h.live, h.lfr, h.dist, h.nd, h.mrk, h.lrec⟩
theorem lk_pt (env : List (Nat × VV)) (d t : Nat) (v : VV) : lk (pt env d v) t = if t = d then v else lk env t := by
 induction env with
 | nil =>
   simp only [pt, lk]
   by_cases h : d = t
   ·simp [h]
   ·simp [h, Ne.symm h]
 | cons p env ih =>
   obtain ⟨a, x⟩ := p
   simp only [pt]
   split
   ·rename_i ha; subst ha
    simp only [lk]
    by_cases h : a = t
    ·simp [h]
    ·simp [h, Ne.symm h]
   ·rename_i ha
    simp only [lk, ih]
    by_cases h : a = t
    ·subst h; simp [ha]
    ·simp [h]
theorem hlk_hpt (hp : List (Nat × LObj)) (d t : Nat) (v : LObj) : hlk (hpt hp d v) t = if t = d then some v else hlk hp t := by
 induction hp with
 | nil =>
   simp only [hpt, hlk]
   by_cases h : d = t
   ·simp [h]
   ·simp [h, Ne.symm h]
 | cons p hp ih =>
   obtain ⟨a, x⟩ := p
   simp only [hpt]
   split
   ·rename_i ha; subst ha
    simp only [hlk]
    by_cases h : a = t
    ·simp [h]
    ·simp [h, Ne.symm h]
   ·rename_i ha
    simp only [hlk, ih]
    by_cases h : a = t
    ·subst h; simp [ha]
    ·simp [h]
theorem lk_clean (d : Nat) : ∀ (env : List (Nat × VV)) (t : Nat), lk (clean d env) t = .any ∨ (lk (clean d env) t = lk env t ∧ ∀ gs v, lk env t = .cnd gs v → gs.any (fun g => g.1 == d) = false)
 | [], t => .inl rfl
 | (a, x) :: env, t => by
   by_cases hat : a = t
   ·cases x with
    | cnd gs v =>
      simp only [clean]
      cases hg : gs.any (fun g => g.1 == d) with
      | true => simp [lk, hat]
      | false =>
        refine .inr ⟨by simp [lk, hat], ?_⟩
        intro gs' v' h
        simp only [lk, hat, if_true, VV.cnd.injEq] at h
        rw [← h.1]; exact hg
    | _ => exact .inr ⟨by simp [clean, lk, hat], by intro gs v h; simp [lk, hat] at h⟩
   ·have ih := lk_clean d env t
    have e1 : lk (clean d ((a, x) :: env)) t = lk (clean d env) t := by
     cases x with
     | cnd gs v => simp only [clean]; split <;> simp [lk, hat]
     | _ => simp [clean, lk, hat]
    have e2 : lk ((a, x) :: env) t = lk env t := by simp [lk, hat]
    rw [e1, e2]; exact ih
theorem GH_put {d : Nat} {a : AV} (h : gs.any (fun g => g.1 == d) = false) : GH (aenv.put d a) gs ↔ GH aenv gs := by
 have : ∀ g ∈ gs, (aenv.put d a).get g.1 = aenv.get g.1 := fun g hg => by
  apply Env.get_put_ne
  intro he
  rw [List.any_eq_false] at h
  exact h g hg (by simp [he])
 constructor
 ·intro k g hg; rw [← this g hg]; exact k g hg
 ·intro k g hg; rw [this g hg]; exact k g hg
theorem SR_nocnd {v : VV} {a : AV} (h : VRel P W w nx v a) : SR P W w nx aenv (nocnd v) a := by
 cases v <;> first | (simp only [nocnd, SR, VRel]; done) | exact h
theorem ER.clean_put {d : Nat} {v : VV} {a : AV} (he : ER P W w nx env aenv) (hv : SR P W w nx (aenv.put d a) v a) : ER P W w nx (pt (clean d env) d v) (aenv.put d a) := by
 intro t
 rw [lk_pt]
 by_cases htd : t = d
 ·subst htd; rw [if_pos rfl, Env.get_put_same]; exact hv
 ·rw [if_neg htd, Env.get_put_ne _ _ htd]
  rcases lk_clean d env t with h | ⟨h, hc⟩
  ·rw [h]; simp [SR, VRel]
  ·rw [h]
   have := he t
   unfold SR at this ⊢
   split at this
   ·rename_i gs v hl
    have hg := hc gs v hl
    exact ⟨fun k => this.1 ((GH_put hg).1 k), fun k => this.2 fun k' => k ((GH_put hg).2 k')⟩
   ·exact this
theorem ER.put {d : Option Nat} {v : VV} {a : AV} (he : ER P W w nx env aenv) (hv : VRel P W w nx v a) : ER P W w nx (AL.put env d v) (aenv.set d a) := by
 cases d with
 | none => exact he
 | some d => exact he.clean_put (SR_nocnd hv)
theorem ER.putC {d : Option Nat} {v : VV} {a : AV} (he : ER P W w nx env aenv) (h1 : GH aenv gs → VRel P W w nx v a) (h2 : ¬ GH aenv gs → ∃ xs, a = .tup xs) : ER P W w nx (AL.putC env d gs v) (aenv.set d a) := by
 cases d with
 | none => exact he
 | some d =>
   simp only [AL.putC]
   cases hg : gs.any (fun g => g.1 == d) with
   | true => rw [if_pos rfl]; exact he.clean_put (by simp [SR, VRel])
   | false =>
     rw [if_neg (by simp)]
     refine he.clean_put ?_
     simp only [SR]
     exact ⟨fun k => h1 ((GH_put hg).1 k), fun k => h2 fun k' => k ((GH_put hg).2 k')⟩
theorem HR.new {b : Nat} {o : LObj} {ao : AObj} (h : HR P W fr0 w st σ ds) (hb : σ b = none) (ho : ORel P W w st.nx o ao) :
  ∃ w', Wd.le st.nx w w' ∧ HR P W fr0 w' { st with hp := hpt st.hp st.nx o, nx := st.nx + 1 } (σ.put b ao) ds ∧ w'.ρ st.nx = b := by
 let w' : Wd := { w with ρ := fun h => if h = st.nx then b else w.ρ h }
 have hle : Wd.le st.nx w w' := ⟨fun x hx => by simp [w', Nat.ne_of_lt hx], fun _ _ => rfl, rfl, AH.le_refl _⟩
 have hσ : σ.le (σ.put b ao) := AH.le_put _ hb
 have hρ : ∀ x o', hlk st.hp x = some o' → w'.ρ x = w.ρ x := fun x o' hx => hle.ρ x (h.hlt x o' hx)
 have hne : ∀ x o', hlk st.hp x = some o' → w.ρ x ≠ b := fun x o' hx he => by
  obtain ⟨ao', h1, _⟩ := h.obj x o' hx
  rw [he, hb] at h1; cases h1
 refine ⟨w', hle, ⟨AH.le_trans h.fr hσ, h.base, ?_, ?_, ?_, ?_, fun i hi => Nat.lt_succ_of_lt (h.llt i hi), fun i hi => (h.live i hi).mono hσ, h.lfr, h.dist, h.nd, fun c hc => ⟨hσ _ _ (h.mrk c hc).1, (h.mrk c hc).2⟩, fun l o hl => ⟨hσ _ _ (h.lrec l o hl).1, (h.lrec l o hl).2⟩⟩, by simp [w']⟩
 ·intro x o' hx
  simp only [hlk_hpt] at hx
  split at hx
  ·rename_i hxn; cases hx; subst hxn
   exact ⟨ao, by simp [w', AH.put_same], ho.mono hle (Nat.le_succ _)⟩
  ·obtain ⟨ao', h1, h2⟩ := h.obj x o' hx
   exact ⟨ao', by rw [hρ x o' hx]; exact hσ _ _ h1, h2.mono hle (Nat.le_succ _)⟩
 ·intro x o' hx
  simp only [hlk_hpt] at hx
  split at hx
  ·rename_i hxn; simp only [hxn]; omega
  ·have := h.hlt x o' hx; simp only; omega
 ·intro x o' hx
  simp only [hlk_hpt] at hx
  split at hx
  ·rename_i hxn; subst hxn
   show w.fr (if st.nx = st.nx then b else _) = none
   rw [if_pos rfl]; exact AH.none_le h.fr hb
  ·rw [hρ x o' hx]; exact h.hfr x o' hx
 ·intro x y o' o'' hx hy he
  simp only [hlk_hpt] at hx hy
  split at hx
  ·rename_i hxn
   split at hy
   ·rename_i hyn; rw [hxn, hyn]
   ·rw [hρ y o'' hy] at he
    have : w'.ρ x = b := by simp [w', hxn]
    exact absurd (he.symm.trans this) (hne y o'' hy)
  ·split at hy
   ·rename_i hyn
    rw [hρ x o' hx] at he
    have : w'.ρ y = b := by simp [w', hyn]
    exact absurd (he.trans this) (hne x o' hx)
   ·rw [hρ x o' hx, hρ y o'' hy] at he
    exact h.inj x y o' o'' hx hy he
theorem HR.newT {b : Nat} {o : LObj} {ao : AObj} (tok : Tok) (h : HR P W fr0 w st σ ds) (hb : σ b = none) (ho : ∀ w' : Wd, Wd.le st.nx w w' → w'.ρ st.nx = b → w'.tk st.nx = tok → ORel P W w' (st.nx + 1) o ao) :
  ∃ w', Wd.le st.nx w w' ∧ HR P W fr0 w' { st with hp := hpt st.hp st.nx o, nx := st.nx + 1 } (σ.put b ao) ds ∧ w'.ρ st.nx = b ∧ w'.tk st.nx = tok := by
 let w' : Wd := { w with ρ := fun h => if h = st.nx then b else w.ρ h, tk := fun i => if i = st.nx then tok else w.tk i }
 have hle : Wd.le st.nx w w' := ⟨fun x hx => by simp [w', Nat.ne_of_lt hx], fun x hx => by simp [w', Nat.ne_of_lt hx], rfl, AH.le_refl _⟩
 have hσ : σ.le (σ.put b ao) := AH.le_put _ hb
 have hρ : ∀ x o', hlk st.hp x = some o' → w'.ρ x = w.ρ x := fun x o' hx => hle.ρ x (h.hlt x o' hx)
 have hne : ∀ x o', hlk st.hp x = some o' → w.ρ x ≠ b := fun x o' hx he => by
  obtain ⟨ao', h1, _⟩ := h.obj x o' hx
  rw [he, hb] at h1; cases h1
 have htk : ∀ i ∈ st.live, w'.tk i = w.tk i := fun i hi => hle.tk i (h.llt i hi)
 refine ⟨w', hle, ⟨AH.le_trans h.fr hσ, h.base, ?_, ?_, ?_, ?_, fun i hi => Nat.lt_succ_of_lt (h.llt i hi), fun i hi => by rw [htk i hi]; exact (h.live i hi).mono hσ, fun i hi => by rw [htk i hi]; exact h.lfr i hi, fun i hi j hj => by rw [htk i hi, htk j hj]; exact h.dist i hi j hj, h.nd, fun c hc => ⟨hσ _ _ (h.mrk c hc).1, (h.mrk c hc).2⟩, fun l o hl => ⟨hσ _ _ (h.lrec l o hl).1, (h.lrec l o hl).2⟩⟩, by simp [w'], by simp [w']⟩
 ·intro x o' hx
  simp only [hlk_hpt] at hx
  split at hx
  ·rename_i hxn; cases hx; subst hxn
   exact ⟨ao, by simp [w', AH.put_same], ho w' hle (by simp [w']) (by simp [w'])⟩
  ·obtain ⟨ao', h1, h2⟩ := h.obj x o' hx
   exact ⟨ao', by rw [hρ x o' hx]; exact hσ _ _ h1, h2.mono hle (Nat.le_succ _)⟩
 ·intro x o' hx
  simp only [hlk_hpt] at hx
  split at hx
  ·rename_i hxn; simp only [hxn]; omega
  ·have := h.hlt x o' hx; simp only; omega
 ·intro x o' hx
  simp only [hlk_hpt] at hx
  split at hx
  ·rename_i hxn; subst hxn
   show w.fr (if st.nx = st.nx then b else _) = none
   rw [if_pos rfl]; exact AH.none_le h.fr hb
  ·rw [hρ x o' hx]; exact h.hfr x o' hx
 ·intro x y o' o'' hx hy he
  simp only [hlk_hpt] at hx hy
  split at hx
  ·rename_i hxn
   split at hy
   ·rename_i hyn; rw [hxn, hyn]
   ·rw [hρ y o'' hy] at he
    have : w'.ρ x = b := by simp [w', hxn]
    exact absurd (he.symm.trans this) (hne y o'' hy)
  ·split at hy
   ·rename_i hyn
    rw [hρ x o' hx] at he
    have : w'.ρ y = b := by simp [w', hyn]
    exact absurd (he.trans this) (hne x o' hx)
   ·rw [hρ x o' hx, hρ y o'' hy] at he
    exact h.inj x y o' o'' hx hy he
theorem HR.setObj {hd : Nat} {o o' : LObj} {ao' : AObj} (h : HR P W fr0 w st σ ds) (hx : hlk st.hp hd = some o) (ho : ORel P W w st.nx o' ao') (hnr : ∀ e lim, σ (w.ρ hd) ≠ some (.row e lim)) (hnm : σ (w.ρ hd) ≠ some .marks) :
  HR P W fr0 w { st with hp := hpt st.hp hd o' } (σ.put (w.ρ hd) ao') ds := by
 have hfr : w.fr.le (σ.put (w.ρ hd) ao') := AH.le_put_of h.fr (h.hfr hd o hx)
 have key : ∀ x o₂, hlk (hpt st.hp hd o') x = some o₂ → ∃ o₃, hlk st.hp x = some o₃ := fun x o₂ h2 => by
  rw [hlk_hpt] at h2
  split at h2
  ·rename_i he; rw [he]; exact ⟨o, hx⟩
  ·exact ⟨_, h2⟩
 refine ⟨hfr, h.base, ?_, ?_, ?_, ?_, h.llt, ?_, h.lfr, h.dist, h.nd, ?_, ?_⟩
 ·intro x o₂ h2
  simp only [hlk_hpt] at h2
  split at h2
  ·rename_i he; cases h2; subst he; exact ⟨ao', AH.put_same _ _ _, ho⟩
  ·rename_i hne
   obtain ⟨ao, h3, h4⟩ := h.obj x o₂ h2
   refine ⟨ao, ?_, h4⟩
   rw [AH.put_ne]; exact h3
   intro he; exact hne (h.inj x hd o₂ o h2 hx he)
 ·intro x o₂ h2; obtain ⟨o₃, h3⟩ := key x o₂ h2; exact h.hlt x o₃ h3
 ·intro x o₂ h2; obtain ⟨o₃, h3⟩ := key x o₂ h2; exact h.hfr x o₃ h3
 ·intro x y o₂ o₂' h2 h2' he
  obtain ⟨o₃, h3⟩ := key x o₂ h2; obtain ⟨o₄, h4⟩ := key y o₂' h2'
  exact h.inj x y o₃ o₄ h3 h4 he
 ·intro i hi
  have hl := h.live i hi
  cases ht : w.tk i with
  | none => rw [ht] at hl; exact hl
  | clip => trivial
  | own b e lim =>
    rw [ht] at hl
    show (σ.put _ _) b = _
    rw [AH.put_ne]; exact hl
    rintro rfl; exact hnr _ _ hl
 ·intro b hb
  refine ⟨?_, (h.mrk b hb).2⟩
  rw [AH.put_ne]; exact (h.mrk b hb).1
  rintro rfl; exact hnm (h.mrk _ hb).1
 ·intro l o₂ hl
  obtain ⟨h1, h2, h3⟩ := h.lrec l o₂ hl
  refine ⟨?_, h2, h3⟩
  rw [AH.put_ne]; exact h1
  rintro rfl
  obtain ⟨ao, h4, h5⟩ := h.obj hd o hx
  rw [h1] at h4; cases h4
  have := h5.mine
  cases o₂ <;> simp [AObj.mine, AObj.isLoop] at this h3
theorem HR.cells {hd : Nat} {vs : List VV} (h : HR P W fr0 w st σ ds) (hx : hlk st.hp hd = some (.cells vs)) : ∃ as, σ (w.ρ hd) = some (.cells as) ∧ VRelL P W w st.nx vs as := by
 obtain ⟨ao, h1, h2⟩ := h.obj _ _ hx
 obtain ⟨as, rfl, h3⟩ := ORel_cells.1 h2
 exact ⟨as, h1, h3⟩
theorem HR.app {tk : VTok} {t : Tok} {live' : List Nat} (h : HR P W fr0 w st σ ds) (ht : TokR w st.nx tk t) (hk : takeTok st tk = some live') {σ' : AH} {t' : Tok} (ha : Appended σ t σ' t') :
  ∃ w', Wd.le st.nx w w' ∧ HR P W fr0 w' { st with live := st.nx :: live', nx := st.nx + 1 } σ' ds ∧ w'.tk st.nx = t' := by
 let w' : Wd := { w with tk := fun i => if i = st.nx then t' else w.tk i }
 have hle : Wd.le st.nx w w' := ⟨fun _ _ => rfl, fun i hi => by simp [w', Nat.ne_of_lt hi], rfl, AH.le_refl _⟩
 have hl : ∀ i ∈ live', i ∈ st.live ∧ ∀ c, (w.tk i).isOn c = true → t.isOn c = false := by
  intro i hi
  cases tk with
  | none => cases hk
  | clip =>
    simp only [takeTok, Option.some.injEq] at hk; subst hk
    have : t = .clip := ht
    subst this
    exact ⟨hi, fun c _ => rfl⟩
  | own id =>
    simp only [takeTok] at hk
    split at hk
    ·rename_i hc
     simp only [Option.some.injEq] at hk; subst hk
     simp only [List.mem_filter, bne_iff_ne] at hi
     obtain ⟨_, rfl⟩ := ht
     have hmem : id ∈ st.live := by simpa using hc
     exact ⟨hi.1, fun c hc => h.dist i hi.1 id hmem hi.2 c hc⟩
    ·cases hk
 have htfr : ∀ c, t.isOn c = true → w.fr c = none := by
  intro c hc
  cases tk with
  | none => cases hk
  | clip => have : t = .clip := ht
            subst this; cases hc
  | own id =>
    simp only [takeTok] at hk
    split at hk
    ·rename_i hcn
     obtain ⟨_, rfl⟩ := ht
     exact h.lfr id (by simpa using hcn) c hc
    ·cases hk
 have hrow : ∀ c, t.isOn c = true → ∃ e lim, σ c = some (.row e lim) := by
  intro c hc
  cases tk with
  | none => cases hk
  | clip => have : t = .clip := ht
            subst this; cases hc
  | own id =>
    simp only [takeTok] at hk
    split at hk
    ·rename_i hcn
     obtain ⟨_, rfl⟩ := ht
     have hlv := h.live id (by simpa using hcn)
     cases hx : w.tk id with
     | none => rw [hx] at hc; cases hc
     | clip => rw [hx] at hc; cases hc
     | own b e lim =>
       rw [hx] at hlv hc
       simp only [Tok.isOn, beq_iff_eq] at hc
       subst hc
       exact ⟨e, lim, hlv⟩
    ·cases hk
 have keep : ∀ c o, σ c = some o → (∀ e lim, o ≠ .row e lim) → σ' c = some o := fun c o hc hn => by
  refine ha.kept c o hc ?_
  cases hx : t.isOn c with
  | false => rfl
  | true => obtain ⟨e, lim, h2⟩ := hrow c hx; rw [h2] at hc; cases hc; exact absurd rfl (hn e lim)
 have hρ : w'.ρ = w.ρ := rfl
 have hon : ∀ c, t'.isOn c = true → w.fr c = none := fun c hc => by
  rcases ha.old c hc with h1 | h1
  ·exact htfr c h1
  ·exact AH.none_le h.fr h1
 have htk : ∀ i ∈ live', w'.tk i = w.tk i := fun i hi => hle.tk i (h.llt i (hl i hi).1)
 have honl : ∀ i ∈ live', ∀ c, (w.tk i).isOn c = true → t'.isOn c = false := fun i hi c hc => by
  cases hx : t'.isOn c with
  | false => rfl
  | true =>
    rcases ha.old c hx with h1 | h1
    ·rw [(hl i hi).2 c hc] at h1; cases h1
    ·have hlv := h.live i (hl i hi).1
     cases hxx : w.tk i with
     | none => rw [hxx] at hc; cases hc
     | clip => rw [hxx] at hc; cases hc
     | own b e lim =>
       rw [hxx] at hlv hc
       simp only [Tok.isOn, beq_iff_eq] at hc
       subst hc
       rw [show σ b = some (.row e lim) from hlv] at h1; cases h1
 refine ⟨w', hle, ⟨?_, h.base, ?_, ?_, h.hfr, h.inj, ?_, ?_, ?_, ?_, h.nd, ?_, ?_⟩, by simp [w']⟩
 ·intro c o hc
  refine ha.kept c o (h.fr c o hc) ?_
  cases hx : t.isOn c with
  | false => rfl
  | true => rw [show w.fr c = none from htfr c hx] at hc; cases hc
 ·intro x o hx
  obtain ⟨ao, h1, h2⟩ := h.obj x o hx
  refine ⟨ao, keep _ _ h1 ?_, h2.mono hle (Nat.le_succ _)⟩
  intro e lim he
  subst he
  cases h2.mine
 ·intro x o hx; exact Nat.lt_succ_of_lt (h.hlt x o hx)
 ·intro i hi
  rcases List.mem_cons.1 hi with rfl | hi
  ·exact Nat.lt_succ_self _
  ·exact Nat.lt_succ_of_lt (h.llt i (hl i hi).1)
 ·intro i hi
  rcases List.mem_cons.1 hi with rfl | hi
  ·show Live σ' (if _ then t' else _)
   rw [if_pos rfl]; exact ha.live
  ·rw [htk i hi]
   have hlv := h.live i (hl i hi).1
   cases hx : w.tk i with
   | none => rw [hx] at hlv; exact hlv
   | clip => trivial
   | own b e lim =>
     rw [hx] at hlv
     exact ha.kept b _ hlv ((hl i hi).2 b (by rw [hx]; simp [Tok.isOn]))
 ·intro i hi c hc
  rcases List.mem_cons.1 hi with rfl | hi
  ·have : w'.tk st.nx = t' := by simp [w']
   rw [this] at hc; exact hon c hc
  ·rw [htk i hi] at hc; exact h.lfr i (hl i hi).1 c hc
 ·intro i hi j hj hij c hc
  have hnx : w'.tk st.nx = t' := by simp [w']
  rcases List.mem_cons.1 hi with rfl | hi
  ·rcases List.mem_cons.1 hj with rfl | hj
   ·exact absurd rfl hij
   ·rw [hnx] at hc
    rw [htk j hj]
    cases hx : (w.tk j).isOn c with
    | false => rfl
    | true => rw [honl j hj c hx] at hc; cases hc
  ·rcases List.mem_cons.1 hj with rfl | hj
   ·rw [htk i hi] at hc
    rw [hnx]; exact honl i hi c hc
   ·rw [htk i hi] at hc; rw [htk j hj]
    exact h.dist i (hl i hi).1 j (hl j hj).1 hij c hc
 ·intro b hb
  exact ⟨keep b _ (h.mrk b hb).1 (by simp), (h.mrk b hb).2⟩
 ·intro l o hl
  obtain ⟨h1, h2, h3⟩ := h.lrec l o hl
  exact ⟨keep l o h1 (by rintro e lim rfl; cases h3), h2, h3⟩
end
end Go.AL
