/- Operations in regions; regions of which the order is open. -/
import Derived.Test.YtcalbijmeifbhaaGreatCoreA
import Derived.RangeFuncRecord
import Derived.Laws.MakeOwn
import Derived.ChangeKeysEq
import Derived.RangeFuncLeaves
set_option linter.unusedVariables false
set_option linter.unusedSimpArgs false
namespace Go.AL
open Go.RowKit
set_option linter.unusedVariables false
set_option linter.unusedSectionVars false
set_option linter.unusedSimpArgs false
section
variable {P : Program} {w₀ : World} {F : Gh} {σ : AH} {w : World} {K : AV → AH → Prop}
theorem fill_array {env : Env} {act : Act} {e : TypeId} {sz : Nat} : ∀ {parts : List (Nat × Operand)} {l : List (Nat × AX)} {xs : List AV} {cells : Array Value} {cs : List AV},
  cElems P e parts = some l → OpdR P F env act.eval (parts.map (·.2)) → RelL F xs cells.toList → putParts xs ((l.map fun (i, x) => (i * sz, sz, x)).map fun (o, n, x) => (o, n, ev env x)) = some cs → xs.all AV.one = true →
  ∃ out : Array Value, Instr.fill (fun i => some (i * sz, sz)) cells (parts.map fun (i, x) => (i, act.eval x)) = some out ∧ RelL F cs out.toList ∧ cs.all AV.one = true
 | [], l, xs, cells, cs, h, _, hr, hp, ha => by
   cases h; simp [putParts] at hp; subst hp; exact ⟨cells, rfl, hr, ha⟩
 | (i, x) :: parts, l, xs, cells, cs, h, hρ, hr, hp, ha => by
   simp only [cElems, Option.bind_eq_some_iff, Option.map_eq_some_iff] at h
   obtain ⟨a, hxa, l', hl', rfl⟩ := h
   have rx := hρ x (by simp) _ _ hxa
   simp only [List.map_cons, putParts] at hp
   split at hp
   ·rename_i hc
    obtain ⟨h1, h2, h3⟩ := hc
    have hcs := rx.cellsOk h3
    have hsz : (act.eval x).cells.size = sz := by rw [← h1, hcs.length]; simp
    have h5 : xs.length = cells.size := by simpa using hr.length
    have hle : i * sz + (act.eval x).cells.size ≤ cells.size := by omega
    simp only [List.map_cons, Instr.fill]
    rw [if_neg (by rw [Bool.or_eq_true, decide_eq_true_eq, decide_eq_true_eq]; omega)]
    refine fill_array hl' (hρ.sub fun y hy => by simp [hy]) ?_ hp ?_
    ·have := foldl_setAt (i * sz) (act.eval x).cells.toList 0 cells
     rw [← Array.foldl_toList, Array.toList_zipIdx, this]
     exact hr.setAt (i * sz) hcs
    ·have h4 : ∀ (ys xs : List AV) (o : Nat), ys.all AV.one = true → xs.all AV.one = true → (setAt xs o ys).all AV.one = true := by
      intro ys
      induction ys with
      | nil => intro xs o _ h; exact h
      | cons y ys ih =>
        intro xs o h h'
        simp only [List.all_cons, Bool.and_eq_true] at h
        refine ih _ _ h.2 ?_
        rw [List.all_eq_true] at *
        intro z hz
        rcases List.mem_or_eq_of_mem_set hz with hz | rfl
        ·exact h' z hz
        ·exact h.1
     exact h4 _ _ _ h3 ha
   ·cases hp
theorem opS_buildA {o : Oper} {t e : TypeId} {m n : Nat} {parts : Array (Nat × Operand)} {z : AV} {l : List (Nat × AX)} (ho : o.op = .build t parts) (ht : P.underlying t = some (.array m e))
  (hz : zeroAV P t = some z) (hn : szOf P e = some n) (hl : cElems P e parts.toList = some l) : OpS P w₀ o (.build z.cells (l.map fun (i, x) => (i * n, n, x))) := by
 intro env σ K F act w hρ hI hK
 obtain ⟨zv, hzr, hrel, hok, _⟩ := zeroAV_run hz
 have h1 : OpdR P F env act.eval (parts.toList.map (·.2)) := hρ.sub fun y hy => by rw [ho]; simpa [Op.operands] using hy
 simp only [wpA] at hK
 split at hK
 ·rename_i cs hcs
  obtain ⟨hall, hK⟩ := hK
  obtain ⟨out, hfill, hro, hao⟩ := fill_array (cells := zv.cells) hl h1 ((hrel F).cellsOk hok) hcs hall
  simp only [execOp, ho]
  have hmap : (parts.map fun (i, x) => (i, act.eval x)).toList = parts.toList.map fun (i, x) => (i, act.eval x) := by simp
  refine pureRun' (cv := .agg out) ?_ hI (.agg hao hro) hK
  simp only [Instr.build, Sem.run_bind, hzr, Result.andThen_ok, run_underlying ht, run_sizeOf' hn, hmap, hfill, Sem.run_pure]
 ·exact hK.elim
theorem opS_mkmap {o : Oper} {t : TypeId} (ho : o.op = .makeMap t none) : OpS P w₀ o .mkmap := by
 intro env σ K F act w hρ hI hK
 simp only [wpA] at hK
 have hrun : (Instr.makeMap t none).run P w = .ok (.map (some w.heap.size)) (w.alloc (.map #[] 0)) := rfl
 simp only [execOp, ho, Option.map_none, Sem.run_bind, hrun, Result.andThen_ok, Sem.run_pure]
 exact ⟨F, _, _, F.le_refl, .map _, hI.allocObj _ (.map []) ⟨[], 0, heap_alloc_new _ _, trivial⟩, hK _ hI.fresh⟩
def KeyD (g : Bool) (d : TypeDesc) : Prop := if g then d = .string else ∃ q, d = .int q
theorem beq_bytes {a b : ByteArray} : (a == b) = decide (a = b) := by
 cases a with | mk x =>
 cases b with | mk y =>
 have : ((⟨x⟩ : ByteArray) == ⟨y⟩) = (x == y) := rfl
 rw [this, Bool.eq_iff_iff]
 simp
theorem keyTy_spec {t : TypeId} {g : Bool} (h : keyTy P t = some g) : ∃ d, P.underlying t = some d ∧ KeyD g d := by
 unfold keyTy at h
 split at h
 ·rename_i hd; cases h; exact ⟨_, hd, rfl⟩
 ·rename_i q hd; cases h; exact ⟨_, hd, _, rfl⟩
 ·cases h
theorem sameNow_of {g : Bool} {d : TypeDesc} (hd : KeyD g d) {k k' : AV} {kv kv' : Value} (hg : keyOk g k = true) (hk : Rel F k kv) (hk' : Rel F k' kv') {b : Bool} (h : keyEq k k' = some b) : Instr.sameNow d kv kv' = some b := by
 unfold keyEq at h
 split at h
 ·rename_i s s'
  cases hk; cases hk'
  have hg' : g = true := by simpa [keyOk] using hg
  subst hg'
  have hd' : d = .string := hd
  subst hd'
  rw [← h]; simp only [Instr.sameNow, beq_bytes]
 ·rename_i q n q' n'
  cases hk; cases hk'
  have hg' : g = false := by simpa [keyOk] using hg
  subst hg'
  obtain ⟨q₀, hd'⟩ : ∃ q, d = .int q := hd
  subst hd'
  rw [← h]; simp only [Instr.sameNow]
  split
  ·rfl
  ·rfl
 ·cases h
theorem findNow_of {g : Bool} {d : TypeDesc} (hd : KeyD g d) {k : AV} {kv : Value} (hg : keyOk g k = true) (hk : Rel F k kv) : ∀ {es : List (AV × AV)} {ms : List MapEntry} {r : Option AV} (i : Nat), RelM F es ms → findA k es = some r →
  match r with
  | none => Instr.findNow d kv ms i = some none
  | some v => ∃ j cv, Instr.findNow d kv ms i = some (some (i + j, cv)) ∧ Rel F v cv ∧ j < ms.length
 | [], [], r, i, _, h => by cases h; rfl
 | [], _ :: _, _, _, h, _ => h.elim
 | _ :: _, [], _, _, h, _ => h.elim
 | (k', v') :: es, e :: ms, r, i, ⟨h1, h2, h3⟩, h => by
   simp only [findA] at h
   split at h
   ·rename_i he
    cases h
    refine ⟨0, e.val, ?_, h2, by simp⟩
    simp only [Instr.findNow, sameNow_of hd hg hk h1 he, Nat.add_zero]
   ·rename_i he
    have ih := findNow_of hd hg hk (i + 1) h3 h
    cases r with
    | none => simp only [Instr.findNow, sameNow_of hd hg hk h1 he]; exact ih
    | some v =>
      obtain ⟨j, cv, e1, e2, e3⟩ := ih
      refine ⟨j + 1, cv, ?_, e2, by simpa using e3⟩
      simp only [Instr.findNow, sameNow_of hd hg hk h1 he, e1]
      congr 3; omega
   ·cases h
theorem run_checkKey {g b : Bool} {t : TypeId} {d : TypeDesc} (ht : P.underlying t = some d) (hd : KeyD g d) (v : Value) (n : Nat) (w : World) : (Instr.checkKey b (n + 1) t v).run P w = .ok () w := by
 cases g with
 | true =>
   have hd' : d = .string := hd
   subst hd'
   simp [Instr.checkKey, run_underlying ht]
 | false =>
   obtain ⟨q, hd'⟩ : ∃ q, d = .int q := hd
   subst hd'
   simp [Instr.checkKey, run_underlying ht]
theorem run_findKey {g : Bool} {t : TypeId} {d : TypeDesc} (ht : P.underlying t = some d) {kv : Value} {ms : List MapEntry} {r : Option (Nat × Value)} (h : Instr.findNow d kv ms 0 = some r) (w : World) : (Instr.findKey t kv ms).run P w = .ok r w := by
 simp only [Instr.findKey, Sem.run_bind, run_underlying ht, Result.andThen_ok, h, Sem.run_pure]
theorem run_getM {r : Nat} {es : Array MapEntry} {c : Nat} (h : w.heap[r]? = some (.map es c)) : (getObj r).run P w = .ok (.map es c) w := by simp [getObj, Sem.run, h]
theorem run_setM {r : Nat} {es : Array MapEntry} {c : Nat} (o' : Obj) (h : w.heap[r]? = some (.map es c)) : (setObj r o').run P w = .ok () (w.putObj r o') := by simp [setObj, Sem.run, h, World.putObj]
theorem run_getS {r : Nat} {s : ByteArray} {p : Nat} (h : w.heap[r]? = some (.stringIter s p)) : (getObj r).run P w = .ok (.stringIter s p) w := by simp [getObj, Sem.run, h]
theorem run_setS {r : Nat} {s : ByteArray} {p : Nat} (o' : Obj) (h : w.heap[r]? = some (.stringIter s p)) : (setObj r o').run P w = .ok () (w.putObj r o') := by simp [setObj, Sem.run, h, World.putObj]
theorem Rel.map_inv {r : Option Nat} {v : Value} (h : Rel F (.map r) v) : v = .map r := by cases h; rfl
theorem Rel.str_inv' {s : ByteArray} {v : Value} (h : Rel F (.str s) v) : v = .string s := by cases h; rfl
theorem opS_look {o : Oper} {t kt et : TypeId} {m k : Operand} {ok g : Bool} {z : AV} {a b : AX} (ho : o.op = .lookup t m k ok) (ht : P.underlying t = some (.map kt et)) (hg : keyTy P kt = some g) (hz : zeroAV P et = some z)
  (ha : cOpd P t m = some a) (hb : cOpd P kt k = some b) : OpS P w₀ o (.look ok g z a b) := by
 intro env σ K F act w hρ hI hK
 have ra := hρ m (by rw [ho]; simp [Op.operands]) _ _ ha
 have rb := hρ k (by rw [ho]; simp [Op.operands]) _ _ hb
 obtain ⟨d, hkd, hd⟩ := keyTy_spec hg
 obtain ⟨zv, hzr, hrel, _, _⟩ := zeroAV_run hz
 simp only [wpA] at hK
 obtain ⟨hko, hK⟩ := hK
 simp only [execOp, ho]
 split at hK
 ·rename_i h1
  rw [h1] at ra
  have hm : act.eval m = .map none := ra.map_inv
  have hf : Instr.findNow d (act.eval k) [] 0 = some none := rfl
  refine pureRun' (cv := if ok then .tuple #[zv, .bool false] else zv) ?_ hI ?_ hK
  ·simp only [Instr.lookup, hm, Sem.run_bind, run_underlying ht, Result.andThen_ok, Sem.run_pure, run_checkKey hkd hd, run_findKey (g := g) hkd hf, hzr]
  ·cases ok with
   | true => exact .tup (.cons (hrel F) (.cons (.bool false) .nil))
   | false => exact hrel F
 ·rename_i r h1
  rw [h1] at ra
  have hm : act.eval m = .map (some r) := ra.map_inv
  split at hK
  ·rename_i es hσ
   obtain ⟨ms, clock, hh, hr⟩ := hI.obj _ _ hσ
   split at hK
   ·rename_i v hfa
    obtain ⟨j, cv, hf, hv, _⟩ := findNow_of hd hko rb 0 hr hfa
    refine pureRun' (cv := if ok then .tuple #[cv, .bool true] else cv) ?_ hI ?_ hK
    ·simp only [Instr.lookup, hm, Sem.run_bind, run_underlying ht, Result.andThen_ok, Sem.run_pure, run_getM hh, run_checkKey hkd hd, run_findKey (g := g) hkd hf, hzr]
    ·cases ok with
     | true => exact .tup (.cons hv (.cons (.bool true) .nil))
     | false => exact hv
   ·rename_i hfa
    have hf := findNow_of hd hko rb 0 hr hfa
    simp only at hf
    refine pureRun' (cv := if ok then .tuple #[zv, .bool false] else zv) ?_ hI ?_ hK
    ·simp only [Instr.lookup, hm, Sem.run_bind, run_underlying ht, Result.andThen_ok, Sem.run_pure, run_getM hh, run_checkKey hkd hd, run_findKey (g := g) hkd hf, hzr]
    ·cases ok with
     | true => exact .tup (.cons (hrel F) (.cons (.bool false) .nil))
     | false => exact hrel F
   ·exact hK.elim
  ·exact hK.elim
 ·exact hK.elim
theorem sameBits_of {k k' : AV} {kv kv' : Value} (hk : Rel F k kv) (hk' : Rel F k' kv') (h : keyEq k k' = some true) : Instr.sameBits 10000 kv' kv = true ∧ kv' = kv := by
 unfold keyEq at h
 split at h
 ·cases hk; cases hk'
  have e := of_decide_eq_true (Option.some.inj h)
  subst e
  exact ⟨by simp [Instr.sameBits, beq_bytes], rfl⟩
 ·cases hk; cases hk'
  split at h
  ·rename_i e
   have e2 := of_decide_eq_true (Option.some.inj h)
   subst e; subst e2
   exact ⟨by simp [Instr.sameBits], rfl⟩
  ·cases h
 ·cases h
theorem setA_new {k v : AV} : ∀ {es : List (AV × AV)}, findA k es = some none → setA k v es = es ++ [(k, v)]
 | [], _ => rfl
 | (k', v') :: es, h => by
   simp only [findA] at h
   split at h
   ·cases h
   ·rename_i he
    simp only [setA, he]
    rw [if_neg (by simp), setA_new h]; rfl
   ·cases h
theorem RelM.append {es : List (AV × AV)} {ms : List MapEntry} {k v : AV} {e : MapEntry} : RelM F es ms → Rel F k e.key → Rel F v e.val → RelM F (es ++ [(k, v)]) (ms ++ [e]) := by
 intro h h1 h2
 induction es generalizing ms with
 | nil => cases ms with
   | nil => exact ⟨h1, h2, trivial⟩
   | cons _ _ => exact h.elim
 | cons p es ih => cases ms with
   | nil => exact h.elim
   | cons m ms => exact ⟨h.1, h.2.1, ih h.2.2⟩
theorem setA_old {g : Bool} {d : TypeDesc} (hd : KeyD g d) {k v v₀ : AV} {kv cv : Value} (hg : keyOk g k = true) (hk : Rel F k kv) (hv : Rel F v cv) : ∀ {es : List (AV × AV)} {ms : List MapEntry} (i : Nat), RelM F es ms → findA k es = some (some v₀) →
  ∃ j cv₀ e, Instr.findNow d kv ms i = some (some (i + j, cv₀)) ∧ ms[j]? = some e ∧ Instr.sameBits 10000 e.key kv = true ∧ RelM F (setA k v es) (ms.modify j fun e => { e with key := kv, val := cv })
 | [], _, _, _, h => by cases h
 | _ :: _, [], _, h, _ => h.elim
 | (k', v') :: es, e :: ms, i, ⟨h1, h2, h3⟩, h => by
   simp only [findA] at h
   split at h
   ·rename_i he
    cases h
    obtain ⟨hs, heq⟩ := sameBits_of hk h1 he
    refine ⟨0, e.val, e, by simp only [Instr.findNow, sameNow_of hd hg hk h1 he, Nat.add_zero], rfl, hs, ?_⟩
    simp only [setA, he, if_true, List.modify_zero_cons]
    exact ⟨heq ▸ h1, hv, h3⟩
   ·rename_i he
    obtain ⟨j, cv₀, e₀, e1, e2, e3, e4⟩ := setA_old hd hg hk hv (i + 1) h3 h
    refine ⟨j + 1, cv₀, e₀, ?_, by simpa using e2, e3, ?_⟩
    ·simp only [Instr.findNow, sameNow_of hd hg hk h1 he, e1]
     congr 3; omega
    ·simp only [setA, he]
     rw [if_neg (by simp), List.modify_succ_cons]
     exact ⟨h1, h2, e4⟩
   ·cases h
theorem opS_upd {o : Oper} {t kt et : TypeId} {m k v : Operand} {g : Bool} {a b c : AX} (ho : o.op = .mapUpdate t m k v) (ht : P.underlying t = some (.map kt et)) (hg : keyTy P kt = some g)
  (ha : cOpd P t m = some a) (hb : cOpd P kt k = some b) (hc : cOpd P et v = some c) : OpS P w₀ o (.upd g a b c) := by
 intro env σ K F act w hρ hI hK
 have ra := hρ m (by rw [ho]; simp [Op.operands]) _ _ ha
 have rb := hρ k (by rw [ho]; simp [Op.operands]) _ _ hb
 have rc := (hρ v (by rw [ho]; simp [Op.operands]) _ _ hc).bare
 obtain ⟨d, hkd, hd⟩ := keyTy_spec hg
 simp only [wpA] at hK
 obtain ⟨hko, hK⟩ := hK
 simp only [execOp, ho]
 split at hK
 ·rename_i r h1
  rw [h1] at ra
  have hm : act.eval m = .map (some r) := ra.map_inv
  split at hK
  ·rename_i es hσ
   obtain ⟨ms, clock, hh, hr⟩ := hI.obj _ _ hσ
   obtain ⟨hfs, hK⟩ := hK
   have hput : ∀ (ms' : List MapEntry) (clock' : Nat), RelM F (setA (ev env b) (ev env c).bare es) ms' → Inv w₀ F (σ.put r (.map (setA (ev env b) (ev env c).bare es))) (w.putObj r (.map ⟨ms'⟩ clock')) := fun ms' clock' hrm => by
    have hlt := (hI.obj _ _ hσ).lt
    exact hI.setObj hσ (hI.apart _ _ hσ) _ _ (fun q hq => by simp [World.putObj, Array.getElem?_setIfInBounds_ne (Ne.symm hq)]) rfl rfl rfl (by simp [World.putObj]) ⟨ms', clock', by simp [World.putObj, hlt], hrm⟩
   cases hfa : findA (ev env b) es with
   | none => rw [hfa] at hfs; cases hfs
   | some q =>
     cases q with
     | none =>
       have hf := findNow_of hd hko rb 0 hr hfa
       simp only at hf
       have hrun : (Instr.mapUpdate t (act.eval m) (act.eval k) (act.eval v)).run P w = .ok () (w.putObj r (.map ⟨ms ++ [{ key := act.eval k, val := act.eval v, born := clock }]⟩ (clock + 1))) := by
        simp only [Instr.mapUpdate, hm, Sem.run_bind, run_underlying ht, Result.andThen_ok, Sem.run_pure, run_getM hh, run_checkKey hkd hd, run_findKey (g := g) hkd hf, run_setM _ hh]
        simp
       simp only [Sem.run_bind, hrun, Result.andThen_ok, Sem.run_pure]
       refine ⟨F, _, _, F.le_refl, .tup .nil, hput _ _ ?_, hK⟩
       rw [setA_new hfa]
       exact hr.append rb rc
     | some v₀ =>
       obtain ⟨j, cv₀, e, hf, he, hs, hrm⟩ := setA_old hd hko rb rc 0 hr hfa
       rw [Nat.zero_add] at hf
       have hrun : (Instr.mapUpdate t (act.eval m) (act.eval k) (act.eval v)).run P w = .ok () (w.putObj r (.map ⟨ms.modify j fun e => { e with key := act.eval k, val := act.eval v }⟩ clock)) := by
        simp only [Instr.mapUpdate, hm, Sem.run_bind, run_underlying ht, Result.andThen_ok, Sem.run_pure, run_getM hh, run_checkKey hkd hd, run_findKey (g := g) hkd hf, Instr.keyThatStays]
        have hk2 : (((⟨ms⟩ : Array MapEntry)[j]?).map (·.key)).getD (act.eval k) = e.key := by simp [he]
        rw [hk2, hs]
        simp only [if_true, Sem.run_pure, Result.andThen_ok, run_setM _ hh]
        simp
       simp only [Sem.run_bind, hrun, Result.andThen_ok, Sem.run_pure]
       exact ⟨F, _, _, F.le_refl, .tup .nil, hput _ _ hrm, hK⟩
  ·exact hK.elim
 ·exact hK.elim
theorem RelM.length : ∀ {es : List (AV × AV)} {ms : List MapEntry}, RelM F es ms → es.length = ms.length
 | [], [], _ => rfl
 | _ :: _, _ :: _, h => by simp [RelM.length h.2.2]
 | [], _ :: _, h => h.elim
 | _ :: _, [], h => h.elim
theorem opS_mlen {o : Oper} {x : Operand} {t kt et : TypeId} {a : AX} (ho : o.op = .call { callee := .builtin .len, args := ⟨[x]⟩, argTypes := ⟨[t]⟩ })
  (ht : P.underlying t = some (.map kt et)) (ha : cOpd P t x = some a) : OpS P w₀ o (.mlen a) := by
 intro env σ K F act w hρ hI hK
 have ra := hρ x (by rw [ho]; simp [Op.operands, Call.operands]) _ _ ha
 simp only [wpA] at hK
 obtain ⟨cs, hrun⟩ := run_builtin (P := P) (w := w) ho act
 rw [hrun]
 split at hK
 ·rename_i h1
  rw [h1] at ra
  have hm : act.eval x = .map none := ra.map_inv
  exact pureRun' (by simp [Builtin.len_, run_underlying ht, hm, goInt]) hI (.int _ _) hK
 ·rename_i r h1
  rw [h1] at ra
  have hm : act.eval x = .map (some r) := ra.map_inv
  split at hK
  ·rename_i es hσ
   obtain ⟨ms, clock, hh, hr⟩ := hI.obj _ _ hσ
   rw [hr.length] at hK
   exact pureRun' (by simp [Builtin.len_, run_underlying ht, hm, goInt, run_getM hh]) hI (.int _ _) hK
  ·exact hK.elim
 ·exact hK.elim
theorem opS_rng {o : Oper} {x : Operand} {t : TypeId} {a : AX} (ho : o.op = .range t x) (ht : P.underlying t = some .string) (ha : cOpd P t x = some a) : OpS P w₀ o (.rng a) := by
 intro env σ K F act w hρ hI hK
 have ra := hρ x (by rw [ho]; simp [Op.operands]) _ _ ha
 simp only [wpA] at hK
 split at hK
 ·rename_i s h1
  rw [h1] at ra
  have hm : act.eval x = .string s := ra.str_inv'
  have hrun : (Instr.range t (act.eval x)).run P w = .ok (.pointer (some ⟨w.heap.size, 0, none⟩)) (w.alloc (.stringIter s 0)) := by
   simp [Instr.range, hm, run_underlying ht, newObj, Sem.run]
  simp only [execOp, ho, Sem.run_bind, hrun, Result.andThen_ok, Sem.run_pure]
  exact ⟨F, _, _, F.le_refl, .ptr _ _, hI.allocObj _ (.sit s 0) (heap_alloc_new _ _), hK _ hI.fresh⟩
 ·exact hK.elim
theorem opS_nxt {o : Oper} {x : Operand} {a : AX} (ho : o.op = .next x true) (ha : cOpd P 0 x = some a) : OpS P w₀ o (.nxt a) := by
 intro env σ K F act w hρ hI hK
 have ra := hρ x (by rw [ho]; simp [Op.operands]) _ _ ha
 simp only [wpA] at hK
 split at hK
 ·rename_i b h1
  rw [h1] at ra
  have hm := ra.ptr_inv
  split at hK
  ·rename_i s pos hσ
   have hh : w.heap[b]? = some (.stringIter s pos) := hI.obj _ _ hσ
   split at hK
   ·rename_i hlt
    have hrun : (Instr.next (act.eval x) true o.type).run P w = .ok (.tuple #[.bool true, goInt pos, .int .i32 (Utf8.decode s pos).1]) (w.putObj b (.stringIter s (pos + (Utf8.decode s pos).2))) := by
     simp only [Instr.next, hm, Sem.run_bind, run_getS hh, Result.andThen_ok]
     simp [hlt, run_setS _ hh]
    simp only [execOp, ho, Sem.run_bind, hrun, Result.andThen_ok, Sem.run_pure]
    have hlt2 := (hI.obj _ _ hσ).lt
    exact ⟨F, _, _, F.le_refl, .tup (.cons (.bool _) (.cons (.int _ _) (.cons (.int _ _) .nil))),
     hI.setObj hσ (hI.apart _ _ hσ) _ _ (fun q hq => by simp [World.putObj, Array.getElem?_setIfInBounds_ne (Ne.symm hq)]) rfl rfl rfl (by simp [World.putObj]) (by show _ = _; simp [World.putObj, hlt2]), hK⟩
   ·rename_i hlt
    have hrun : (Instr.next (act.eval x) true o.type).run P w = .ok (.tuple #[.bool false]) w := by
     simp only [Instr.next, hm, Sem.run_bind, run_getS hh, Result.andThen_ok]
     simp [hlt]
    simp only [execOp, ho, Sem.run_bind, hrun, Result.andThen_ok, Sem.run_pure]
    exact ⟨F, _, _, F.le_refl, .tup (.cons (.bool _) .nil), hI, hK⟩
  ·exact hK.elim
 ·exact hK.elim
end
end Go.AL
namespace Go.AL
open Go.RowKit
set_option linter.unusedVariables false
set_option linter.unusedSectionVars false
set_option linter.unusedSimpArgs false
section
variable {P : Program} {w₀ : World} {F : Gh} {σ : AH} {w : World} {K : AV → AH → Prop}
theorem opS_bad {o : Oper} : OpS P w₀ o .bad := by
 intro env σ K F act w hρ hI hK
 exact hK.elim
theorem made_eq (z : Array Value) : ∀ n : Nat, (madeCells z (n * z.size)).toList = (List.replicate n z.toList).flatten
 | 0 => by simp [madeCells]
 | n + 1 => by
   have ih := made_eq z n
   rw [List.replicate_succ', List.flatten_append, ← ih]
   simp only [List.flatten_cons, List.flatten_nil, List.append_nil]
   apply List.ext_getElem?
   intro j
   have hl : (madeCells z (n * z.size)).toList.length = n * z.size := by simp [madeCells]
   by_cases h1 : j < n * z.size
   ·rw [List.getElem?_append_left (by rw [hl]; exact h1)]
    have h2 : j < (n + 1) * z.size := by rw [Nat.succ_mul]; omega
    simp [madeCells, h1, h2]
   ·rw [List.getElem?_append_right (by rw [hl]; omega), hl]
    by_cases h2 : j < (n + 1) * z.size
    ·have h3 : j - n * z.size < z.size := by rw [Nat.succ_mul] at h2; omega
     have h4 : j % z.size = j - n * z.size := by
      have : j = (j - n * z.size) + z.size * n := by rw [Nat.mul_comm z.size n]; omega
      rw [this, Nat.add_mul_mod_self_left, Nat.mod_eq_of_lt (by omega)]; omega
     simp [madeCells, h2, h4, h3]
    ·have h3 : ¬ j - n * z.size < z.size := by rw [Nat.succ_mul] at h2; omega
     rw [List.getElem?_eq_none (by simp [madeCells]; omega), List.getElem?_eq_none (by simp; omega)]
theorem RelL.flatRep {xs : List AV} {vs : List Value} (h : RelL F xs vs) : ∀ n : Nat, RelL F (List.replicate n xs).flatten (List.replicate n vs).flatten
 | 0 => .nil
 | n + 1 => by
   rw [List.replicate_succ, List.replicate_succ, List.flatten_cons, List.flatten_cons]
   exact h.append (h.flatRep n)
theorem opS_mks {o : Oper} {l c : Operand} {t e : TypeId} {i : TypeInfo} {z : AV} {a b : AX} (ho : o.op = .makeSlice t l c) (ht : P.underlying t = some (.slice e)) (hi : P.info? e = some i)
  (hz : zeroAV P e = some z) (hb : i.bytes ≤ 4096) (hs : z.cells.length = i.size) (ha : cOpd P 0 l = some a) (hc : cOpd P 0 c = some b) : OpS P w₀ o (.mks i.size z a b) := by
 intro env σ K F act w hρ hI hK
 have ra := hρ l (by rw [ho]; simp [Op.operands]) _ _ ha
 have rb := hρ c (by rw [ho]; simp [Op.operands]) _ _ hc
 obtain ⟨zv, hzr, hrel, hok, i', hi', hzi⟩ := zeroAV_run hz
 rw [hi] at hi'; cases hi'
 simp only [wpA] at hK
 split at hK
 ·rename_i k n k' m h1 h2
  rw [h1] at ra; rw [h2] at rb
  obtain ⟨h0, hnm, hm, hK⟩ := hK
  have e1 := ra.int_inv; have e2 := rb.int_inv
  have hby : (i.bytes : Int) * m ≤ 281474976710656 := by
   have h3 : (i.bytes : Int) * m ≤ 4096 * m := Int.mul_le_mul_of_nonneg_right (by omega) (by omega)
   omega
  have hrun := run_make (P := P) w t e i zv ht hi hzi k k' n m h0 hnm hby (by omega)
  simp only [execOp, ho, e1, e2, Sem.run_bind, hrun, Result.andThen_ok, Sem.run_pure]
  have hcs := (hrel F).cellsOk hok
  have hsz : i.size = zv.cells.size := by rw [← hs, hcs.length]; simp
  refine ⟨F, _, _, F.le_refl, .slc _ _ _ _ _, hI.allocObj _ (.cells _) ?_, hK _ hI.fresh⟩
  refine ⟨(madeCells zv.cells (m.toNat * i.size)).toList, e, heap_alloc_new _ _, ?_⟩
  rw [hsz, made_eq]
  exact hcs.flatRep _
 ·exact hK.elim
theorem opS_cap {o : Oper} {x : Operand} {t e : TypeId} {a : AX} (ho : o.op = .call { callee := .builtin .cap, args := ⟨[x]⟩, argTypes := ⟨[t]⟩ })
  (ht : P.underlying t = some (.slice e)) (ha : cOpd P t x = some a) : OpS P w₀ o (.cap a) := by
 intro env σ K F act w hρ hI hK
 have ra := hρ x (by rw [ho]; simp [Op.operands, Call.operands]) _ _ ha
 simp only [wpA] at hK
 obtain ⟨cs, hrun⟩ := run_builtin (P := P) (w := w) ho act
 rw [hrun]
 split at hK
 ·rename_i sz xs h1
  rw [h1] at ra
  rcases ra.lst_inv with ⟨p, c, hv, rfl, htk, _⟩ | ⟨us, blk, off, c, hv, _, _, _, _, hcc, hm, htk⟩
  ·have hc : c = 0 := by rcases htk with h | ⟨_, h⟩ <;> first | cases h; done | exact h
   subst hc
   exact pureRun' (by simp [Builtin.cap_, run_underlying ht, hv, goInt]) hI (.int _ _) hK
  ·have hc : c = xs.length := htk
   subst hc
   exact pureRun' (by simp [Builtin.cap_, run_underlying ht, hv, goInt]) hI (.int _ _) hK
 ·exact hK.elim
theorem run_append_zeros (w : World) (t tn ty e : TypeId) (i : TypeInfo) (z : Value) (k kn : IntKind) (ht : P.underlying t = some (.slice e)) (htn : P.underlying tn = some (.int kn)) (hi : P.info? e = some i) (hz : i.zero = some z) (p : Option Addr)
  (hold : (Builtin.firstCells i.size 0 (.slice p 0 0)).run P w.drew = .ok #[] w.drew)
  (n : Nat) (h0 : 0 < n) (hs : 0 < i.size) (h63 : (n : Int) ≤ 9223372036854775807) (h48 : n * i.bytes ≤ 281474976710656) :
  (Builtin.append_ #[t, tn] ty #[.slice p 0 0, .int k n]).run P w =
   .ok (.slice (some ⟨w.heap.size, 0, none⟩) n (grownCap w n 0 e)) (w.drew.alloc (.cells (Builtin.zeroCells z.cells n ++ Builtin.zeroCells z.cells (grownCap w n 0 e - n)) e)) := by
 have hn : n ≠ 0 := by omega
 have hw : IntKind.i64.wrap (n : Int) = n := by rw [IntKind.wrap_i64]; omega
 have h63' : ¬ (9223372036854775807 < (n : Int)) := by omega
 have h48' : ¬ (281474976710656 < Builtin.nextslicecap n 0 * i.bytes) := by rw [nextslicecap_zero h0]; omega
 have h48i : ¬ (281474976710656 < (n : Int) * (i.bytes : Int)) := by
  rw [← Int.natCast_mul]
  omega
 have hneg : ¬ ((n : Int) < 0) := by omega
 have hns : ¬ (n * i.size = 0) := Nat.mul_ne_zero hn (by omega)
 simp [Builtin.append_, run_underlying ht, run_underlying htn, sizeOf, typeInfo, zeroValue, hi, hz, asInt, asIntOf, hw, hn, hneg, hns, h63', h48', h48i, Question.forced, hold, newRow, grownCap]
theorem opS_appz {o : Oper} {x y : Operand} {t u e : TypeId} {i : TypeInfo} {kn : IntKind} {a b : AX} (ho : o.op = .call { callee := .builtin .append, args := ⟨[x, y]⟩, argTypes := ⟨[t, u]⟩ })
  (ht : P.underlying t = some (.slice e)) (hu : P.underlying u = some (.int kn)) (hi : P.info? e = some i) (hby : i.bytes ≤ 4096) {z : AV} (hz : zeroAV P e = some z) (hzs : z.cells.length = i.size) (hs0 : 0 < i.size)
  (ha : cOpd P t x = some a) (hb : cOpd P u y = some b) : OpS P w₀ o (.appz i.size a b) := by
 intro env σ K F act w hρ hI hK
 have ra := hρ x (by rw [ho]; simp [Op.operands, Call.operands]) _ _ ha
 have rb := hρ y (by rw [ho]; simp [Op.operands, Call.operands]) _ _ hb
 obtain ⟨zv, _, hzrel, hzok, i', hi', hzv⟩ := zeroAV_run hz
 rw [hi] at hi'; cases hi'
 have hzl : zv.cells.size = i.size := by rw [← hzs, ((hzrel F).cellsOk hzok).length]; simp
 simp only [wpA] at hK
 obtain ⟨cs, hrun⟩ := run_builtin (P := P) (w := w) ho act
 rw [hrun]
 split at hK
 ·rename_i sz' k n h1 h2
  rw [h1] at ra; rw [h2] at rb
  obtain ⟨rfl, hn0, hnb, hK⟩ := hK
  obtain ⟨m, rfl⟩ : ∃ m : Nat, n = m := ⟨n.toNat, by omega⟩
  obtain ⟨p, hv, holdrun⟩ : ∃ p, act.eval x = .slice p 0 0 ∧ (Builtin.firstCells i.size 0 (.slice p 0 0)).run P w.drew = .ok #[] w.drew := by
   rcases ra.lst_inv with ⟨p, c, hv, _, htk, hm⟩ | ⟨us, blk, off, c, hv, ho1, hr, hi2, hs, hc, hm, htk⟩
   ·have hc0 : c = 0 := by rcases htk with h | ⟨_, h⟩ <;> first | cases h; done | exact h
    subst hc0
    refine ⟨p, hv, ?_⟩
    cases p with
    | none => exact run_firstCells_none w.drew _ _ _ _
    | some q => exact run_firstCells_some w.drew _ _ q _ _ [] (by simp) (fun j v hj => by simp at hj)
   ·have hc0 : c = 0 := htk
    subst hc0
    exact ⟨_, hv, run_firstCells_some w.drew _ _ _ _ _ [] (by simp) (fun j v hj => by simp at hj)⟩
  have hargs : (Array.map act.eval ⟨[x, y]⟩) = #[.slice p 0 0, .int k m] := by rw [← hv, ← rb.int_inv]; simp
  simp only [hargs]
  show Runs P ((do pure (Next.value (← Builtin.append_ #[t, u] o.type #[.slice p 0 0, .int k m])) : Sem Next).run P w) (Post w₀ F K)
  have hr2 := run_append_zeros w t u o.type e i zv k kn ht hu hi hzv p holdrun m (by omega) hs0 (by omega) (Nat.le_trans (Nat.mul_le_mul (show m ≤ 8589934592 by omega) hby) (by decide))
  have hcap : grownCap w m 0 e < 9223372036854775808 ∧ m ≤ grownCap w m 0 e := by
   have hlt := Nat.mod_lt (w.tape w.drawn (.appendCap m 0 e)) (show 0 < 2 ^ 63 - m by omega)
   simp only [grownCap, Question.cut]
   omega
  generalize hcapE : grownCap w m 0 e = cap at hr2 hcap
  have hzcl : ∀ q, (Builtin.zeroCells zv.cells q).toList.length = q * i.size := fun q => by simp [size_zeroCells, hzl]
  have hfr : σ w.heap.size = none := hI.fresh
  have hall := hI.drew.allocObj (.cells (Builtin.zeroCells zv.cells m ++ Builtin.zeroCells zv.cells (cap - m)) e)
   (.row 0 (cap * i.size)) ⟨Builtin.zeroCells zv.cells m ++ Builtin.zeroCells zv.cells (cap - m), e, by rw [heap_alloc_new], by
    have := hzcl m
    have h2 := hzcl (cap - m)
    simp only [Array.length_toList] at this h2
    rw [Array.size_append, this, h2, ← Nat.add_mul, show m + (cap - m) = cap by omega], Nat.zero_le _⟩
  simp only [Sem.run_bind, hr2, Result.andThen_ok, Sem.run_pure]
  refine ⟨F, .slc i.size w.heap.size 0 m cap, _, Gh.le_refl _, .slc _ _ _ _ _, hall, ?_⟩
  have := hK _ cap hfr (by simpa using hcap.2) hcap.1
  simpa using this
 ·exact hK.elim
theorem opS_iaA {o : Oper} {x i : Operand} {t e : TypeId} {m sz : Nat} {a b : AX} (ho : o.op = .indexAddr t x i) (ht : P.underlying t = some (.array m e)) (hn : szOf P e = some sz)
  (ha : cOpd P 0 x = some a) (hb : cOpd P 0 i = some b) : OpS P w₀ o (.iaA m sz a b) := by
 intro env σ K F act w hρ hI hK
 have ra := hρ x (by rw [ho]; simp [Op.operands]) _ _ ha
 have rb := hρ i (by rw [ho]; simp [Op.operands]) _ _ hb
 have hrun : ∀ blk off k j, act.eval x = .pointer (some ⟨blk, off, none⟩) → act.eval i = .int k j → 0 ≤ j → j < m →
   (Instr.indexAt t (act.eval x) (act.eval i)).run P w = .ok (.pointer (some ⟨blk, off + j.toNat * sz, none⟩)) w := by
  intro blk off k j hx hi h0 h1
  simp [Instr.indexAt, Instr.sureAddr, hx, hi, asIntOf, run_underlying ht, h0, h1, run_sizeOf' hn, Addr.add_mk]
 simp only [wpA] at hK
 split at hK
 ·rename_i xs k j h1 h2
  rw [h1] at ra; rw [h2] at rb
  obtain ⟨h0, hlt, hle, hK⟩ := hK
  obtain ⟨us, blk, off, hv, ho1, hr, hi⟩ := ra.elt_inv
  simp only [execOp, ho]
  refine pureRun' (hrun blk off k j hv rb.int_inv h0 hlt) hI (Rel.elt (us := (us.drop (j.toNat * sz)).take sz) (all_drop_take ho1 _ _) (hr.dropTake _ _) fun q u hu => ?_) hK
  rw [List.getElem?_take] at hu
  split at hu
  ·rw [List.getElem?_drop] at hu; rw [Nat.add_assoc]; exact hi _ _ hu
  ·cases hu
 ·rename_i blk off k j h1 h2
  rw [h1] at ra; rw [h2] at rb
  obtain ⟨h0, hlt, hK⟩ := hK
  simp only [execOp, ho]
  exact pureRun' (hrun blk off k j ra.ptr_inv rb.int_inv h0 hlt) hI (.ptr _ _) hK
 ·exact hK.elim
theorem RelL.ints : ∀ {xs : List AV} {vs : List Value} {is : List (IntKind × Int)}, RelL F xs vs → intsOf xs = some is → vs = is.map fun p => .int p.1 p.2
 | [], _, _, .nil, h => by cases h; rfl
 | x :: xs, _, is, .cons (v := v) h k, hi => by
   cases x <;> simp only [intsOf, Option.map_eq_some_iff] at hi <;> try (cases hi; done)
   obtain ⟨l, hl, rfl⟩ := hi
   rw [h.int_inv, k.ints hl]; rfl
theorem intsOf_length : ∀ {xs : List AV} {is : List (IntKind × Int)}, intsOf xs = some is → xs.length = is.length
 | [], _, h => by cases h; rfl
 | x :: xs, is, h => by
   cases x <;> simp only [intsOf, Option.map_eq_some_iff] at h <;> try (cases h; done)
   obtain ⟨l, hl, rfl⟩ := h
   simp [intsOf_length hl]
theorem run_items {e : TypeId} {k : IntKind} (he : P.underlying e = some (.int k)) (hn : szOf P e = some 1) (hc : P.cellsOf e = 1) (d : Nat) (is js : List (IntKind × Int)) (hk : is.map (·.1) = js.map (·.1)) (w : World) :
  ∀ m i : Nat, i + m = is.length → (Op.eqItems (d + 1) e (P.cellsOf e) ⟨is.map fun p => .int p.1 p.2⟩ ⟨js.map fun p => .int p.1 p.2⟩ (List.range' i m)).run P w = .ok (decide (is.drop i = js.drop i)) w
 | 0, i, h => by
   have hl : is.length = js.length := by simpa using congrArg List.length hk
   rw [List.drop_of_length_le (by omega), List.drop_of_length_le (by omega)]
   simp [Op.eqItems, List.range']
 | m + 1, i, h => by
   have hl : is.length = js.length := by simpa using congrArg List.length hk
   have hi : i < is.length := by omega
   have hj : i < js.length := by omega
   have hag : aggOf P e = some false := by simp [aggOf, he, isAggD]
   have hkk : (is[i]).1 = (js[i]).1 := by
    have := congrArg (fun l => l[i]?) hk
    simpa [hi, hj] using this
   have ih := run_items he hn hc d is js hk w m (i + 1) (by omega)
   have p1 : (part e (⟨is.map fun p => .int p.1 p.2⟩ : Array Value) i).run P w = .ok (.int (is[i]).1 (is[i]).2) w := by
    rw [run_part (g := false) hn hag _ i (by simp; omega) (.inr rfl)]
    simp [List.getD_eq_getElem?_getD, hi]
   have p2 : (part e (⟨js.map fun p => .int p.1 p.2⟩ : Array Value) i).run P w = .ok (.int (js[i]).1 (js[i]).2) w := by
    rw [run_part (g := false) hn hag _ i (by simp; omega) (.inr rfl)]
    simp [List.getD_eq_getElem?_getD, hj]
   rw [hc] at ih ⊢
   have p3 : (Op.equalIn (d + 1) e (.int (is[i]).1 (is[i]).2) (.int (js[i]).1 (js[i]).2)).run P w = .ok ((is[i]).2 == (js[i]).2) w := by
    simp only [Op.equalIn, Sem.run_bind, run_underlying he, Result.andThen_ok, hkk, if_true, Sem.run_pure]
   simp only [List.range'_succ, Op.eqItems, Nat.mul_one, Sem.run_bind, p1, p2, p3, Result.andThen_ok, ih]
   have e1 : is.drop i = is[i] :: is.drop (i + 1) := List.drop_eq_getElem_cons hi
   have e2 : js.drop i = js[i] :: js.drop (i + 1) := List.drop_eq_getElem_cons hj
   by_cases hv : (is[i]).2 = (js[i]).2
   ·have hp : is[i] = js[i] := Prod.ext hkk hv
    have e3 : (is.drop i = js.drop i) = (is.drop (i + 1) = js.drop (i + 1)) := by rw [e1, e2, hp]; simp only [List.cons.injEq, true_and]
    simp only [e3]
    have hb : ((is[i]).2 == (js[i]).2) = true := by simpa using hv
    simp [hb, ih]
   ·have hp : is[i] ≠ js[i] := fun h => hv (by rw [h])
    have hb : ((is[i]).2 == (js[i]).2) = false := by simpa using hv
    have e3 : (is.drop i = js.drop i) = False := by rw [e1, e2]; simp only [List.cons.injEq, hp, false_and]
    simp only [e3]
    simp [hb]
theorem cells_of_sz {e : TypeId} (hn : szOf P e = some 1) : P.cellsOf e = 1 := by
 obtain ⟨i, hi, h1⟩ := szOf_size hn
 simp [Program.cellsOf, hi, h1]
theorem opS_arrEq {o : Oper} {op : BinOp} {x y : Operand} {t yt e : TypeId} {n : Nat} {neg : Bool} {ao : AOp} (ho : o.op = .binOp op t x y yt) (hd : P.underlying t = some (.array n e))
  (hop : op = (if neg then .neq else .eql)) (h : cArrEq P neg t yt n e x y = some ao) : OpS P w₀ o ao := by
 unfold cArrEq at h
 split at h
 ·rename_i k he hn
  split at h
  ·rename_i hgd
   simp only [Option.bind_eq_some_iff, Option.map_eq_some_iff] at h
   obtain ⟨a, ha, b, hb, rfl⟩ := h
   intro env σ K F act w hρ hI hK
   have ra := hρ x (by rw [ho]; simp [Op.operands]) _ _ ha
   have rb := hρ y (by rw [ho]; simp [Op.operands]) _ _ hb
   simp only [wpA] at hK
   split at hK
   ·rename_i xs ys h1 h2
    rw [h1] at ra; rw [h2] at rb
    obtain ⟨us, hv, ho1, hr⟩ := ra.agg_inv
    obtain ⟨vs, hv2, ho2, hr2⟩ := rb.agg_inv
    split at hK
    ·rename_i is js hi hj
     obtain ⟨hl, hl2, hkd, hK⟩ := hK
     have e1 := hr.ints hi
     have e2 := hr2.ints hj
     have hrun : (Op.equal t (act.eval x) (act.eval y)).run P w = .ok (decide (is = js)) w := by
      rw [hv, hv2, e1, e2]
      show (Op.equalIn (9999 + 1) t _ _).run P w = _
      obtain ⟨i, hi2, _⟩ := szOf_size hn
      rw [run_equalIn_array w 9999 _ _ hd hi2]
      have := run_items he hn (cells_of_sz hn) 9998 is js hkd w n 0 (by rw [← intsOf_length hi, hl]; omega)
      simpa [List.range_eq_range'] using this
     have hpr : ∀ w, (program : Sem Program).run P w = .ok P w := fun w => rfl
     cases neg
     ·have hop' : op = .eql := hop
      subst hop'
      have hg : (eqGuard .eql t x y (act.eval x) (act.eval y)).run P w = .ok () w := by
       rw [hv, hv2]
       simp only [eqGuard, Bool.not_true, Bool.false_eq_true, if_false, Sem.run_bind, hpr, Result.andThen_ok, hgd, Bool.not_false, if_true, Sem.run_pure]
      simp only [execOp, ho]
      refine pureRun' (cv := .bool (decide (is = js))) ?_ hI (.bool _) (by simpa using hK)
      simp only [Sem.run_bind, hg, Result.andThen_ok]
      rw [hv, hv2] at hrun ⊢
      show (do pure (Value.bool (← Op.equal t _ _)) : Sem Value).run P w = _
      simp [hrun]
     ·have hop' : op = .neq := hop
      subst hop'
      have hg : (eqGuard .neq t x y (act.eval x) (act.eval y)).run P w = .ok () w := by
       rw [hv, hv2]
       simp only [eqGuard, Bool.not_true, Bool.false_eq_true, if_false, Sem.run_bind, hpr, Result.andThen_ok, hgd, Bool.not_false, if_true, Sem.run_pure]
      simp only [execOp, ho]
      refine pureRun' (cv := .bool (!decide (is = js))) ?_ hI (.bool _) (by simpa using hK)
      simp only [Sem.run_bind, hg, Result.andThen_ok]
      rw [hv, hv2] at hrun ⊢
      show (do pure (Value.bool (!(← Op.equal t _ _))) : Sem Value).run P w = _
      simp [hrun]
    ·exact hK.elim
   ·exact hK.elim
  ·cases h
 ·cases h
end
end Go.AL
namespace Go.AL
open Go.RowKit
set_option linter.unusedVariables false
set_option linter.unusedSectionVars false
set_option linter.unusedSimpArgs false
theorem getElem?_setAt {α : Type} : ∀ (ys xs : List α) (o i : Nat), o + ys.length ≤ xs.length → (setAt xs o ys)[i]? = if o ≤ i ∧ i < o + ys.length then ys[i - o]? else xs[i]?
 | [], xs, o, i, _ => by simp only [setAt, List.length_nil, Nat.add_zero]; rw [if_neg (by omega)]
 | y :: ys, xs, o, i, h => by
   simp only [List.length_cons] at h ⊢
   rw [setAt, getElem?_setAt ys _ (o + 1) i (by simp; omega)]
   by_cases h1 : o + 1 ≤ i ∧ i < o + 1 + ys.length
   ·rw [if_pos h1, if_pos (by omega), show i - o = (i - (o + 1)) + 1 by omega, List.getElem?_cons_succ]
   ·rw [if_neg h1, List.getElem?_set]
    by_cases h2 : o = i
    ·subst h2; rw [if_pos rfl, if_pos (by omega), if_pos (by omega)]; simp
    ·rw [if_neg h2, if_neg (by omega)]
section
variable {P : Program} {w₀ : World} {F : Gh} {σ : AH} {w : World} {K : AV → AH → Prop}
theorem Inv.extendRow (h : Inv w₀ F σ w) {b e lim : Nat} (hb : σ b = some (.row e lim)) (news : List Value) (hfit : e + news.length ≤ lim) :
  ∃ F', F.le F' ∧ Inv w₀ F' (σ.put b (.row (e + news.length) lim)) (w.setCells b e news) ∧ ∀ (j : Nat) (u : Value), news[j]? = some u → F' b (e + j) = some u := by
 obtain ⟨us, T, hg, hsz, hle⟩ := h.obj _ _ hb
 have hfree : ∀ i, e ≤ i → F b i = none := h.apart _ _ hb
 have hg2 : (w.setCells b e news).heap[b]? = some (.cells ⟨setAt us.toList e news⟩ T (0, 0)) := heap_setCells_same news us.toList e w (by simpa using hg)
 have hus : us.toList.length = lim := by simpa using hsz
 have hle' : F.le (fun c i => if c = b ∧ e ≤ i ∧ i < e + news.length then news[i - e]? else F c i) := fun c i v hv => by
  by_cases hc : c = b ∧ e ≤ i ∧ i < e + news.length
  ·obtain ⟨rfl, h1, _⟩ := hc; rw [hfree i h1] at hv; cases hv
  ·simp only [hc, if_false]; exact hv
 refine ⟨_, hle', ⟨fun c i v hv => ?_, fun c o hc => ?_, fun c o hc => ?_, fun c o hc => ?_, ?_⟩, fun j u hu => ?_⟩
 ·by_cases hcb : c = b
  ·subst hcb
   simp only [World.cell?, hg2]
   have := getElem?_setAt news us.toList e i (by omega)
   simp only [true_and] at hv
   split at hv
   ·rename_i h1; rw [if_pos h1] at this; simp [this, hv]
   ·rename_i h1; rw [if_neg h1] at this
    have h2 := h.imm _ _ _ hv
    simp only [World.cell?, hg] at h2
    simpa [this] using h2
  ·simp only [hcb, false_and, if_false] at hv
   have := h.imm _ _ _ hv
   simpa [World.cell?, heap_setCells_ne hcb news e w] using this
 ·by_cases hcb : c = b
  ·subst hcb; rw [AH.put_same] at hc; cases hc
   exact ⟨_, T, hg2, by simpa [length_setAt] using hus, hfit⟩
  ·rw [AH.put_ne _ _ hcb] at hc
   exact ((h.obj c o hc).mono hle').congr (heap_setCells_ne hcb news e w)
 ·by_cases hcb : c = b
  ·subst hcb; rw [AH.put_same] at hc; cases hc
   intro i hi
   show (if c = c ∧ e ≤ i ∧ i < e + news.length then news[i - e]? else F c i) = none
   rw [if_neg (by omega)]; exact hfree i (by omega)
  ·rw [AH.put_ne _ _ hcb] at hc
   have := h.apart c o hc
   cases o <;> simp only [AObj.free, hcb, false_and, if_false] at this ⊢ <;> exact this
 ·by_cases hcb : c = b
  ·subst hcb; exact h.new _ _ hb
  ·rw [AH.put_ne _ _ hcb] at hc; exact h.new c o hc
 ·have hn := h.new _ _ hb
  exact h.base.trans ⟨World.os_setCells _ _ _ _, tape_setCells _ _ _, World.output_setCells _ _ _ _, by rw [size_setCells]; exact Nat.le_refl _, fun k hk => heap_setCells_ne (by omega) news e w⟩
 ·have hj : j < news.length := by
   rcases Nat.lt_or_ge j news.length with h1 | h1
   ·exact h1
   ·rw [List.getElem?_eq_none h1] at hu; cases hu
  simp only [true_and]
  rw [if_pos (by omega), Nat.add_sub_cancel_left]; exact hu
theorem Inv.allocRow (h : Inv w₀ F σ w) (us rest : List Value) (T : TypeId) :
  F.le (F.add w.heap.size us) ∧ Inv w₀ (F.add w.heap.size us) (σ.put w.heap.size (.row us.length (us.length + rest.length))) (w.alloc (.cells ⟨us ++ rest⟩ T)) := by
 have hle : F.le (F.add w.heap.size us) := fun b i v hv => by
  have hne : b ≠ w.heap.size := by
   rintro rfl; rw [h.freshF (Nat.le_refl _)] at hv; cases hv
  simp [Gh.add, hne, hv]
 refine ⟨hle, ⟨fun b i v hv => ?_, fun b o hb => ?_, fun b o hb => ?_, fun b o hb => ?_, h.base.alloc h.base.size _⟩⟩
 ·by_cases hbn : b = w.heap.size
  ·subst hbn
   simp only [Gh.add, if_true] at hv
   rw [World.cell?_alloc_new]
   have : i < us.length := by
    rcases Nat.lt_or_ge i us.length with h1 | h1
    ·exact h1
    ·rw [List.getElem?_eq_none h1] at hv; cases hv
   simpa [List.getElem?_append_left this] using hv
  ·simp only [Gh.add, hbn, if_false] at hv
   rw [World.cell?_alloc_old _ _ _ hbn]; exact h.imm _ _ _ hv
 ·by_cases hbn : b = w.heap.size
  ·subst hbn; rw [AH.put_same] at hb; cases hb
   exact ⟨_, T, heap_alloc_new _ _, by simp, by omega⟩
  ·rw [AH.put_ne _ _ hbn] at hb
   exact ((h.obj b o hb).mono hle).congr (heap_alloc_lt _ _ (h.obj b o hb).lt)
 ·by_cases hbn : b = w.heap.size
  ·subst hbn; rw [AH.put_same] at hb; cases hb
   intro i hi; simp only [Gh.add, if_true]; exact List.getElem?_eq_none hi
  ·rw [AH.put_ne _ _ hbn] at hb
   have := h.apart b o hb
   cases o <;> simp only [AObj.free, Gh.add, hbn, if_false] at this ⊢ <;> exact this
 ·by_cases hbn : b = w.heap.size
  ·subst hbn; exact h.base.size
  ·rw [AH.put_ne _ _ hbn] at hb; exact h.new b o hb
theorem RelL.anys {F : Gh} : ∀ (vs : List Value), RelL F (List.replicate vs.length .any) vs
 | [] => .nil
 | v :: vs => .cons (.any v) (RelL.anys vs)
theorem opS_app {o : Oper} {x y : Operand} {t u e : TypeId} {i : TypeInfo} {a b : AX} (ho : o.op = .call { callee := .builtin .append, args := ⟨[x, y]⟩, argTypes := ⟨[t, u]⟩ })
  (ht : P.underlying t = some (.slice e)) (hu : P.underlying u = some (.slice e)) (hi : P.info? e = some i) (hby : i.bytes ≤ 4096) {z : AV} (hz : zeroAV P e = some z) (hzs : z.cells.length = i.size)
  (ha : cOpd P t x = some a) (hb : cOpd P u y = some b) : OpS P w₀ o (.app i.size a b) := by
 intro env σ K F act w hρ hI hK
 have ra := hρ x (by rw [ho]; simp [Op.operands, Call.operands]) _ _ ha
 have rb := hρ y (by rw [ho]; simp [Op.operands, Call.operands]) _ _ hb
 obtain ⟨zv, _, hzrel, hzok, i', hi', hzv⟩ := zeroAV_run hz
 rw [hi] at hi'; cases hi'
 have hzl : zv.cells.size = i.size := by rw [← hzs, ((hzrel F).cellsOk hzok).length]; simp
 simp only [wpA] at hK
 obtain ⟨cs, hrun⟩ := run_builtin (P := P) (w := w) ho act
 rw [hrun]
 split at hK
 ·rename_i sz1 xs tk sz2 ys tk2 h1 h2
  rw [h1] at ra; rw [h2] at rb
  obtain ⟨rfl, h3, hlive, hbound, hK⟩ := hK
  -- the source
  obtain ⟨news, hnews, hsrc⟩ : ∃ news, RelL F (ys.flatMap AV.cells) news ∧ Src P i.size u (act.eval y) ys.length news w := by
   rcases rb.lst_inv with ⟨p, c, hv, rfl, _⟩ | ⟨us, blk, off, c, hv, ho1, hr, hi2, hs, hc, hm, htk⟩
   ·refine ⟨[], .nil, ?_⟩
    rw [hv]
    cases p with
    | none => exact Src.ofNil w hu c
    | some q => exact Src.ofSlice w hu q 0 c [] (by simp) (fun j v hj => by simp at hj) (fun _ h => by cases h)
   ·refine ⟨us, hr, ?_⟩
    rw [hv]
    exact Src.ofSlice w hu _ _ _ us (by rw [← hr.length, flatMap_length hs, h3]) (fun j v hj => by rw [Addr.add_mk]; exact hI.imm _ _ _ (hi2 j v hj)) (hr.one ho1)
  have hys : ∀ y' ∈ ys, y'.cells.length = i.size := by
   rcases rb.lst_inv with ⟨_, _, hv, rfl, _⟩ | ⟨us, blk, off, c, hv, ho1, hr, hi2, hs, hc, hm, htk⟩
   ·simp
   ·exact fun y' hy' => h3 ▸ hs y' hy'
  have hyo : (ys.flatMap AV.cells).all AV.one = true := by
   rcases rb.lst_inv with ⟨_, _, hv, rfl, _⟩ | ⟨us, blk, off, c, hv, ho1, hr, hi2, hs, hc, hm, htk⟩
   ·rfl
   ·exact ho1
  have hnl := hsrc.newsLen
  -- what is there
  obtain ⟨p, c, olds, hv, hxo, hold, hlc, hc63, hxs, holdrun, hplace⟩ : ∃ p c olds, act.eval x = .slice p xs.length c ∧ (xs.flatMap AV.cells).all AV.one = true ∧ RelL F (xs.flatMap AV.cells) olds ∧ xs.length ≤ c ∧ c < 9223372036854775808 ∧
    (∀ x' ∈ xs, x'.cells.length = i.size) ∧ (∀ w', w'.heap = w.heap → (Builtin.firstCells i.size xs.length (.slice p xs.length c)).run P w' = .ok olds.toArray w') ∧
    ((c = 0 ∧ xs = []) ∨ ∃ blk off, p = some ⟨blk, off, none⟩ ∧ TokAt blk off xs.length c i.size tk ∧ ∀ (q : Nat) (v : Value), olds[q]? = some v → F blk (off + q) = some v) := by
   rcases ra.lst_inv with ⟨p, c, hv, rfl, htk, hm⟩ | ⟨us, blk, off, c, hv, ho1, hr, hi2, hs, hc, hm, htk⟩
   ·have hc0 : c = 0 := by
     rcases htk with rfl | ⟨_, h⟩
     ·exact hlive.elim
     ·exact h
    refine ⟨p, c, [], hv, rfl, .nil, by simp, hm, by simp, fun w' _ => ?_, .inl ⟨hc0, rfl⟩⟩
    cases p with
    | none => exact run_firstCells_none w' _ _ _ _
    | some q => exact run_firstCells_some w' _ _ q _ _ [] (by simp) (fun j v hj => by simp at hj)
   ·refine ⟨_, c, us, hv, ho1, hr, hc, hm, hs, fun w' hw' => ?_, .inr ⟨blk, off, rfl, htk, hi2⟩⟩
    refine run_firstCells_some w' _ _ _ _ _ us (by rw [← hr.length, flatMap_length hs]) (fun j v hj => ?_)
    rw [Addr.add_mk]
    have := hI.imm _ _ _ (hi2 j v hj)
    simpa [World.cell?, hw'] using this
  have hcat : (xs ++ ys).flatMap AV.cells = xs.flatMap AV.cells ++ ys.flatMap AV.cells := by simp
  have hcato : ((xs ++ ys).flatMap AV.cells).all AV.one = true := by rw [hcat, List.all_append, hxo, hyo]; rfl
  have hcats : ∀ x' ∈ xs ++ ys, x'.cells.length = i.size := fun x' hx' => by
   rcases List.mem_append.1 hx' with h | h
   ·exact hxs x' h
   ·exact hys x' h
  have hol : olds.length = xs.length * i.size := by rw [← hold.length, flatMap_length hxs]
  have hargs : (Array.map act.eval ⟨[x, y]⟩) = #[.slice p xs.length c, act.eval y] := by rw [← hv]; simp
  simp only [hargs]
  show Runs P ((do pure (Next.value (← Builtin.append_ #[t, u] o.type #[.slice p xs.length c, act.eval y])) : Sem Next).run P w) (Post w₀ F K)
  rcases hK with hK | ⟨hx0, htk0, hy0, hK⟩
  rotate_left
  ·-- a block of its own
   subst hx0 htk0
   have hyl : 0 < ys.length := List.length_pos_iff.2 hy0
   have hc0 : c = 0 := by
    rcases hplace with ⟨h, _⟩ | ⟨blk, off, _, htk, _⟩
    ·exact h
    ·exact htk
   subst hc0
   have hol0 : olds = [] := by cases hold; rfl
   subst hol0
   have hneed : 0 + ys.length ≤ 8589934592 := by simpa using hbound
   have hr2 := run_append_grow_src w t u o.type e i zv ht hi hzv p 0 0 [] (holdrun w.drew rfl) (act.eval y) ys.length news hsrc (by omega) (by omega)
    (growslice_fits (by omega) (Nat.le_trans (Nat.mul_le_mul hneed hby) (by decide)))
   have hcap : grownCap w (0 + ys.length) 0 e < 9223372036854775808 ∧ 0 + ys.length ≤ grownCap w (0 + ys.length) 0 e := by
    have hlt := Nat.mod_lt (w.tape w.drawn (.appendCap (0 + ys.length) 0 e)) (show 0 < 2 ^ 63 - (0 + ys.length) by omega)
    simp only [grownCap, Question.cut]
    omega
   generalize hcapE : grownCap w (0 + ys.length) 0 e = cap at hr2 hcap
   have hzcl : (Builtin.zeroCells zv.cells (cap - (0 + ys.length))).toList.length = (cap - (0 + ys.length)) * i.size := by simp [size_zeroCells, hzl]
   have hfr : σ w.heap.size = none := hI.fresh
   have hall := hI.drew.allocObj (.cells (([] ++ news).toArray ++ Builtin.zeroCells zv.cells (cap - (0 + ys.length))) e)
    (.cells (ys.flatMap AV.cells ++ List.replicate ((cap - ys.length) * i.size) .any)) ⟨news ++ (Builtin.zeroCells zv.cells (cap - (0 + ys.length))).toList, e, by rw [heap_alloc_new]; congr 2; apply Array.ext'; simp, hnews.append (by
     have := RelL.anys (F := F) (Builtin.zeroCells zv.cells (cap - (0 + ys.length))).toList
     rw [hzcl, show (cap - (0 + ys.length)) * i.size = (cap - ys.length) * i.size by rw [Nat.zero_add]] at this; exact this)⟩
   simp only [List.length_nil, Sem.run_bind, hr2, Result.andThen_ok, Sem.run_pure]
   rw [Nat.zero_add] at hcap
   refine ⟨F, .slc i.size w.heap.size 0 ys.length cap, _, Gh.le_refl _, ?_, hall, hK _ _ hfr hcap.2 hcap.1⟩
   rw [Nat.zero_add]
   exact .slc _ _ _ _ _
  by_cases hy0 : ys = []
  ·subst hy0
   have hn0 : news = [] := by cases hnews; rfl
   subst hn0
   have hr2 := run_append_nothing w t u o.type e i ht hi p xs.length c hlc (act.eval y) hsrc
   have hK := hK tk σ ⟨fun _ _ h _ => h, fun _ _ h _ => h, hlive, fun _ h => .inl h⟩
   rw [List.append_nil] at hK
   rw [hv] at ra
   exact pureRun' hr2 hI ra hK
  ·have hyl : 0 < ys.length := List.length_pos_iff.2 hy0
   by_cases hroom : xs.length + ys.length ≤ c
   ·-- in place
    rcases hplace with ⟨rfl, rfl⟩ | ⟨blk, off, rfl, htk, hi2⟩
    ·simp at hroom; exact absurd hroom hy0
    ·cases tk with
     | none => exact hlive.elim
     | clip => simp only [TokAt] at htk; omega
     | own b' ee lim =>
       obtain ⟨rfl, he, hlim⟩ := htk
       simp only [Live] at hlive
       obtain ⟨us0, T0, hg0, hsz0, hle0⟩ := hI.obj _ _ hlive
       have hfit : ee + news.length ≤ lim := by
        rw [hnl, ← he, Nat.add_assoc, ← Nat.add_mul]
        exact Nat.le_trans (Nat.add_le_add_left (Nat.mul_le_mul_right _ hroom) _) hlim
       have hr2 := run_append_room_src w t u o.type e i ht hi b' off xs.length c (act.eval y) ys.length news hsrc hroom (fun j hj => by
        have : off + xs.length * i.size + j < us0.size := by omega
        simp [World.cell?, hg0, this]) (fun j hj => by simp [World.frozen?, hg0])
       obtain ⟨F', hle', hI', hnew⟩ := hI.extendRow hlive news hfit
       rw [he] at hr2
       have happ : Appended σ (.own b' ee lim) (σ.put b' (.row (ee + news.length) lim)) (.own b' (ee + news.length) lim) := by
        refine ⟨fun q ob hq hne => ?_, fun q ob hq hne => ?_, AH.put_same _ _ _, fun q hq => .inl ?_⟩
        ·have : b' ≠ q := by simpa [Tok.isOn] using hne
         rw [AH.put_ne _ _ this.symm]; exact hq
        ·have : b' ≠ q := by simpa [Tok.isOn] using hne
         rw [AH.put_ne _ _ this.symm] at hq; exact hq
        ·simpa [Tok.isOn] using hq
       simp only [Sem.run_bind, hr2, Result.andThen_ok, Sem.run_pure]
       refine ⟨F', _, _, hle', .lst (us := olds ++ news) hcato ?_ (fun q v hq => ?_) hcats hroom hc63 ?_ (by simp), hI', hK _ _ happ⟩
       ·rw [hcat]; exact (hold.mono hle').append (hnews.mono hle')
       ·rw [List.getElem?_append] at hq
        split at hq
        ·exact hle' _ _ _ (hi2 q v hq)
        ·rename_i hge
         have := hnew _ _ hq
         rw [← this]; congr 1; omega
       ·refine ⟨rfl, ?_, hlim⟩
        rw [hnl, ← he, Nat.add_assoc, ← Nat.add_mul]
   ·-- a new row
    have hneed : xs.length + ys.length ≤ 8589934592 := hbound
    have hr2 := run_append_grow_src w t u o.type e i zv ht hi hzv p xs.length c olds (holdrun w.drew rfl) (act.eval y) ys.length news hsrc (by omega) (by omega)
     (growslice_fits (by omega) (Nat.le_trans (Nat.mul_le_mul hneed hby) (by decide)))
    have hcap : grownCap w (xs.length + ys.length) c e < 9223372036854775808 ∧ xs.length + ys.length ≤ grownCap w (xs.length + ys.length) c e := by
     have hlt := Nat.mod_lt (w.tape w.drawn (.appendCap (xs.length + ys.length) c e)) (show 0 < 2 ^ 63 - (xs.length + ys.length) by omega)
     simp only [grownCap, Question.cut]
     omega
    generalize hcapE : grownCap w (xs.length + ys.length) c e = cap at hr2 hcap
    have hal := hI.drew.allocRow (olds ++ news) (Builtin.zeroCells zv.cells (cap - (xs.length + ys.length))).toList e
    rw [show ((⟨olds ++ news ++ (Builtin.zeroCells zv.cells (cap - (xs.length + ys.length))).toList⟩ : Array Value)) = (olds ++ news).toArray ++ Builtin.zeroCells zv.cells (cap - (xs.length + ys.length)) by
     apply Array.ext'; simp] at hal
    have hlen : (olds ++ news).length = (xs.length + ys.length) * i.size := by rw [List.length_append, hol, hnl, Nat.add_mul]
    have hzcl : (Builtin.zeroCells zv.cells (cap - (xs.length + ys.length))).toList.length = (cap - (xs.length + ys.length)) * i.size := by simp [size_zeroCells, hzl]
    simp only [Sem.run_bind, hr2, Result.andThen_ok, Sem.run_pure]
    refine ⟨_, _, _, hal.1, .lst (t := .own w.heap.size (olds ++ news).length ((olds ++ news).length + (Builtin.zeroCells zv.cells (cap - (xs.length + ys.length))).toList.length)) (us := olds ++ news) hcato ?_ (fun q v hq => ?_) hcats hcap.2 hcap.1 ?_ (by simp), hal.2, hK _ _ ?_⟩
    ·rw [hcat]; exact (hold.mono hal.1).append (hnews.mono hal.1)
    ·show (F.add w.heap.size (olds ++ news)) w.heap.size (0 + q) = some v
     simp only [Gh.add, if_true, Nat.zero_add]; exact hq
    ·refine ⟨rfl, by rw [hlen, Nat.zero_add], ?_⟩
     rw [hlen, hzcl, ← Nat.add_mul, Nat.zero_add]
     exact Nat.mul_le_mul_right _ (by omega)
    ·have hfr : σ w.heap.size = none := hI.fresh
     refine ⟨fun q ob hq hne => ?_, fun q ob hq hne => ?_, AH.put_same _ _ _, fun q hq => .inr ?_⟩
     ·have : q ≠ w.heap.size := by rintro rfl; rw [hfr] at hq; cases hq
      rw [show w.drew.heap.size = w.heap.size from rfl, AH.put_ne _ _ this]; exact hq
     ·have : w.heap.size ≠ q := by simpa [Tok.isOn] using hne
      rw [show w.drew.heap.size = w.heap.size from rfl, AH.put_ne _ _ this.symm] at hq; exact hq
     ·have : w.heap.size = q := by simpa [Tok.isOn] using hq
      subst this; exact hfr
 ·exact hK.elim
theorem opS_idxA {o : Oper} {x ix : Operand} {t e : TypeId} {n sz : Nat} {g : Bool} {a b : AX} (ho : o.op = .index t x ix) (ht : P.underlying t = some (.array n e)) (hn : szOf P e = some sz) (hg : aggOf P e = some g)
  (ha : cOpd P t x = some a) (hb : cOpd P 0 ix = some b) : OpS P w₀ o (.idxA g n sz a b) := by
 intro env σ K F act w hρ hI hK
 have ra := hρ x (by rw [ho]; simp [Op.operands]) _ _ ha
 have rb := hρ ix (by rw [ho]; simp [Op.operands]) _ _ hb
 simp only [wpA] at hK
 split at hK
 ·rename_i xs k j h1 h2
  rw [h1] at ra; rw [h2] at rb
  obtain ⟨vs, hv, ho1, hr⟩ := ra.agg_inv
  obtain ⟨h0, hlt, hle, hK⟩ := hK
  have hgn : g = true ∨ sz = 1 := by cases g with | true => exact .inl rfl | false => exact .inr hK.1
  rw [Nat.succ_mul] at hle
  have hp := run_part (P := P) (w := w) hn hg vs (j.toNat * sz) (by rw [← hr.length]; exact hle) hgn
  simp only [execOp, ho, hv, rb.int_inv]
  cases g with
  | true => exact pureRun' (by simp [Instr.index, asIntOf, run_underlying ht, h0, hlt, run_sizeOf' hn, hp]) hI (.agg (all_drop_take ho1 _ _) (hr.dropTake _ _)) hK
  | false =>
    obtain ⟨rfl, hK⟩ := hK
    have hlt2 : j.toNat < xs.length := by omega
    obtain ⟨v, hv', hrel⟩ := hr.get (i := j.toNat) (x := xs[j.toNat]) (by simp [hlt2])
    refine pureRun' (cv := v) ?_ hI hrel (by simpa [List.getD_eq_getElem?_getD, hlt2] using hK)
    simp only [Bool.false_eq_true, if_false, Nat.mul_one] at hp
    simp [Instr.index, asIntOf, run_underlying ht, h0, hlt, run_sizeOf' hn, hp, List.getD_eq_getElem?_getD, hv']
 ·exact hK.elim
theorem opS_call {o : Oper} {f : Operand} {args : Array Operand} {ts : Array TypeId} {a : AX} {as : List AX} (ho : o.op = .call { callee := .value f, args := args, argTypes := ts })
  (ha : cOpd P 0 f = some a) (hb : cOpds P ts.toList args.toList = some as) : OpS P w₀ o (.call a as) := by
 intro env σ K F act w hρ hI hK
 have ra := hρ f (by rw [ho]; simp [Op.operands, Call.operands]) _ _ ha
 have h1 : OpdR P F env act.eval args.toList := hρ.sub fun y hy => by rw [ho]; simp [Op.operands, Call.operands]; exact .inr (by simpa using hy)
 have hrl := h1.list hb
 simp only [wpA, ACallV] at hK
 split at hK
 ·rename_i g first cap h2
  rw [h2] at ra
  obtain ⟨us, vs, hv, hu, hc⟩ := ra.fn_inv
  obtain ⟨⟨fn, hfn, hbody, hname⟩, hK⟩ := hK
  have hb' : fn.body.isNone = false := by cases h : fn.body with | none => rw [h] at hbody; cases hbody | some _ => rfl
  have hex : (execOp act.eval o).run P w = .ok (.enter g ⟨us ++ args.toList.map act.eval ++ vs⟩) w := by
   simp only [execOp, ho, resolve, Sem.run_bind, hv, Deferred.ofValue, Sem.run_pure, Result.andThen_ok, invoke, callFunc]
   have hname' : ¬ fn.name = "runtime.NumGoroutine" := by simpa using hname
   have hb2 : ¬ fn.body = none := by intro h; rw [h] at hb'; cases hb'
   simp [Sem.run, program, hfn]
   rw [if_neg hname', if_neg hb2, ← map_toArr]
   congr 2
   apply Array.ext'
   simp
  rw [hex]
  refine (hK F _ w ((hu.append hrl).append hc) hI).mono ?_
  rintro e w' ⟨cv, he, F', v, σ', h3, h4, h5, h6⟩
  exact ⟨cv, he, F', v, σ', h3, h4, h5, h6⟩
 ·rename_i l cap h2
  rw [h2] at ra
  obtain ⟨us, vs, hv, hu, hc⟩ := ra.fn_inv
  cases hu
  have hex : (execOp act.eval o).run P w = (Instr.yield l ⟨args.toList.map act.eval⟩).run P w := by
   simp only [execOp, ho, resolve, Sem.run_bind, hv, Deferred.ofValue, Sem.run_pure, Result.andThen_ok, invoke]
   rw [map_toArr]; simp
  rw [hex]
  exact hK F _ w hrl hI
 ·exact hK.elim
theorem opS_minmax {o : Oper} {args : Array Operand} {ts : Array TypeId} {as : List AX} {g : Bool} (ho : o.op = .call { callee := .builtin (if g then .max else .min), args := args, argTypes := ts })
  (hb : cOpds P ts.toList args.toList = some as) : OpS P w₀ o (.minmax g as) := by
 intro env σ K F act w hρ hI hK
 have h1 : OpdR P F env act.eval args.toList := hρ.sub fun y hy => by rw [ho]; simp [Op.operands, Call.operands]; exact (by simpa using hy)
 have hrl := h1.list hb
 obtain ⟨cs, hrun⟩ := run_builtin (P := P) (w := w) ho act
 rw [hrun, ← map_toArr]
 simp only [wpA] at hK
 generalize args.toList.map act.eval = l at hrl ⊢
 split at hK
 ·rename_i k a k' b hx
  obtain ⟨rfl, hK⟩ := hK
  rw [hx] at hrl
  cases hrl with
  | cons r1 r2 => cases r2 with
    | cons r3 r4 =>
      cases r4
      have e1 := r1.int_inv; have e2 := r3.int_inv
      subst e1; subst e2
      cases g with
      | true =>
        refine pureRun' (s := Builtin.max_ ts o.type ⟨[.int k a, .int k b]⟩) (cv := .int k (max a b)) ?_ hI (.int _ _) hK
        simp only [Builtin.max_, List.foldlM_cons, List.foldlM_nil, Builtin.max2, pure_bind]
        show Result.ok _ _ = _
        congr 2
        omega
      | false =>
        refine pureRun' (s := Builtin.min_ ts o.type ⟨[.int k a, .int k b]⟩) (cv := .int k (min a b)) ?_ hI (.int _ _) hK
        simp only [Builtin.min_, List.foldlM_cons, List.foldlM_nil, Builtin.min2, pure_bind]
        show Result.ok _ _ = _
        congr 2
        omega
 ·exact hK.elim
theorem opS {o : Oper} {ao : AOp} (h : compOp P o = some ao) : OpS P w₀ o ao := by
 rcases compOp_spec h with h | ⟨rfl, _⟩
 rotate_left
 ·exact opS_bad
 unfold compOp0 at h
 split at h
 case h_1 x hx => exact opS_move (.inl hx) h
 case h_2 x hx => exact opS_move (.inr hx) h
 case h_3 c a b hx => exact opS_pick hx h
 case h_4 op t x y yt hx =>
  unfold cBin at h
  split at h
  ·cases h
  ·rename_i d hd
   split at h
   ·simp only [Option.bind_eq_some_iff, Option.map_eq_some_iff] at h
    obtain ⟨a, ha, b, hb, rfl⟩ := h
    exact opS_bin hx hd ha hb
   ·split at h
    ·simp only [Option.bind_eq_some_iff, Option.map_eq_some_iff] at h
     obtain ⟨a, ha, b, hb, rfl⟩ := h
     exact opS_beq (neg := false) hx hd rfl ha hb
    ·simp only [Option.bind_eq_some_iff, Option.map_eq_some_iff] at h
     obtain ⟨a, ha, b, hb, rfl⟩ := h
     exact opS_beq (neg := true) hx hd rfl ha hb
    ·simp only [Option.map_eq_some_iff] at h
     obtain ⟨a, ha, rfl⟩ := h
     exact opS_nilq (neg := false) hx hd rfl ha
    ·simp only [Option.map_eq_some_iff] at h
     obtain ⟨a, ha, rfl⟩ := h
     exact opS_nilq (neg := true) hx hd rfl ha
    ·exact opS_arrEq (neg := false) hx hd rfl h
    ·exact opS_arrEq (neg := true) hx hd rfl h
    ·cases h
 case h_5 op t x hx =>
  simp only [Option.map_eq_some_iff] at h
  obtain ⟨a, ha, rfl⟩ := h
  exact opS_un hx ha
 case h_6 t hx =>
  simp only [Option.map_eq_some_iff] at h
  obtain ⟨z, hz, rfl⟩ := h
  exact opS_new hx hz
 case h_7 t x hx =>
  simp only [Option.map_eq_some_iff] at h
  obtain ⟨a, ha, rfl⟩ := h
  exact opS_box hx ha
 case h_8 t x hx =>
  simp only [Option.bind_eq_some_iff] at h
  obtain ⟨a, ha, n, hn, g, hg, h⟩ := h
  split at h
  ·rename_i hgn; cases h; exact opS_ld hx hn hg hgn ha
  ·cases h
 case h_9 t x v hx =>
  simp only [Option.bind_eq_some_iff, Option.map_eq_some_iff] at h
  obtain ⟨a, ha, n, hn, c, hc, rfl⟩ := h
  exact opS_st hx hn ha hc
 case h_10 s x f hx =>
  split at h
  ·rename_i fs hs
   simp only [Option.bind_eq_some_iff] at h
   obtain ⟨fd, hf, n, hn, h⟩ := h
   split at h
   ·cases h
   ·rename_i h0
    simp only [Option.map_eq_some_iff] at h
    obtain ⟨a, ha, rfl⟩ := h
    exact opS_fa hx hs hf hn h0 ha
  ·cases h
 case h_11 s x f hx =>
  split at h
  ·rename_i fs hs
   simp only [Option.bind_eq_some_iff, Option.map_eq_some_iff] at h
   obtain ⟨fd, hf, n, hn, g, hg, a, ha, rfl⟩ := h
   exact opS_fld hx hs hf hn hg ha
  ·cases h
 case h_12 t x i hx =>
  split at h
  ·rename_i e ht
   simp only [Option.bind_eq_some_iff, Option.map_eq_some_iff] at h
   obtain ⟨n, hn, a, ha, b, hb, rfl⟩ := h
   exact opS_ia hx ht hn ha hb
  ·rename_i m e ht
   simp only [Option.bind_eq_some_iff, Option.map_eq_some_iff] at h
   obtain ⟨n, hn, a, ha, b, hb, rfl⟩ := h
   exact opS_iaA hx ht hn ha hb
  ·cases h
 case h_13 t l c hx =>
  split at h
  ·rename_i e ht
   simp only [Option.bind_eq_some_iff] at h
   obtain ⟨i, hi, z, hz, h⟩ := h
   split at h
   ·rename_i hc
    simp only [Option.bind_eq_some_iff, Option.map_eq_some_iff] at h
    obtain ⟨a, ha, b, hb, rfl⟩ := h
    exact opS_mks hx ht hi hz hc.1 hc.2 ha hb
   ·cases h
  ·cases h
 case h_14 t x i hx =>
  split at h
  ·rename_i ht
   simp only [Option.bind_eq_some_iff, Option.map_eq_some_iff] at h
   obtain ⟨a, ha, b, hb, rfl⟩ := h
   exact opS_idx hx ht ha hb
  ·rename_i n e ht
   simp only [Option.bind_eq_some_iff, Option.map_eq_some_iff] at h
   obtain ⟨s, hn, g, hg, a, ha, b, hb, rfl⟩ := h
   exact opS_idxA hx ht hn hg ha hb
  ·cases h
 case h_15 x i hx =>
  simp only [Option.map_eq_some_iff] at h
  obtain ⟨a, ha, rfl⟩ := h
  exact opS_ext hx ha
 case h_16 x hx =>
  simp only [Option.map_eq_some_iff] at h
  obtain ⟨a, ha, rfl⟩ := h
  exact opS_nilck hx ha
 case h_17 t parts hx =>
  split at h
  ·rename_i fs ht
   simp only [Option.bind_eq_some_iff, Option.map_eq_some_iff] at h
   obtain ⟨z, hz, pl, hpl, l, hl, rfl⟩ := h
   exact opS_build hx ht hz hpl hl
  ·rename_i m e ht
   simp only [Option.bind_eq_some_iff, Option.map_eq_some_iff] at h
   obtain ⟨z, hz, n, hn, l, hl, rfl⟩ := h
   exact opS_buildA hx ht hz hn hl
  ·cases h
 case h_18 t len parts hx =>
  split at h
  ·rename_i e ht
   simp only [Option.bind_eq_some_iff] at h
   obtain ⟨n, hn, z, hz, h⟩ := h
   split at h
   ·rename_i hc
    obtain ⟨h1, h2, h3⟩ := hc
    simp only [Option.map_eq_some_iff] at h
    obtain ⟨l, hl, rfl⟩ := h
    exact opS_bsl hx ht hn hz h1 h2 h3 hl
   ·cases h
  ·cases h
 case h_19 t x lo hi mx hx =>
  split at h
  ·rename_i e ht
   simp only [Option.bind_eq_some_iff] at h
   obtain ⟨n, hn, a, ha, lo', hl, hi', hh, mx', hm, h⟩ := h
   split at h
   ·cases h
   ·rename_i hc
    cases h
    exact opS_slc hx ht hn ha hl hh hm (fun hm1 => by cases hi' with | none => simp [hm1] at hc | some _ => rfl)
  ·rename_i ht
   simp only [Option.bind_eq_some_iff] at h
   obtain ⟨a, ha, lo', hl, hi', hh, h⟩ := h
   split at h
   ·cases h; exact opS_sub hx ht ha hl hh
   ·cases h
  ·cases h
 case h_20 f first cap hx =>
  simp only [Option.bind_eq_some_iff, Option.map_eq_some_iff] at h
  obtain ⟨a, ha, b, hb, rfl⟩ := h
  exact opS_mkf hx ha hb
 case h_21 s d x hx =>
  split at h
  ·rename_i k' k hs hd
   simp only [Option.map_eq_some_iff] at h
   obtain ⟨a, ha, rfl⟩ := h
   exact opS_itoi hx hs hd ha
  ·rename_i k' hs hd
   simp only [Option.map_eq_some_iff] at h
   obtain ⟨a, ha, rfl⟩ := h
   exact opS_itos hx hs hd ha
  ·cases h
 case h_22 c hx =>
  unfold cCall at h
  obtain ⟨callee, args, ts⟩ := c
  simp only at h
  split at h
  ·simp only [Option.bind_eq_some_iff, Option.map_eq_some_iff] at h
   obtain ⟨a, ha, as, hb, rfl⟩ := h
   exact opS_call hx ha hb
  ·split at h
   ·split at h
    ·rename_i ht
     simp only [Option.map_eq_some_iff] at h
     obtain ⟨a, ha, rfl⟩ := h
     exact opS_slen hx ht ha
    ·rename_i ht
     simp only [Option.map_eq_some_iff] at h
     obtain ⟨a, ha, rfl⟩ := h
     exact opS_len hx ht ha
    ·rename_i kt et ht
     simp only [Option.map_eq_some_iff] at h
     obtain ⟨a, ha, rfl⟩ := h
     exact opS_mlen hx ht ha
    ·cases h
   ·cases h
  ·split at h
   ·split at h
    ·rename_i ht
     simp only [Option.map_eq_some_iff] at h
     obtain ⟨a, ha, rfl⟩ := h
     exact opS_cap hx ht ha
    ·cases h
   ·cases h
  ·simp only [Option.map_eq_some_iff] at h
   obtain ⟨as, hb, rfl⟩ := h
   exact opS_minmax (g := true) hx hb
  ·simp only [Option.map_eq_some_iff] at h
   obtain ⟨as, hb, rfl⟩ := h
   exact opS_minmax (g := false) hx hb
  ·split at h
   ·split at h
    ·rename_i e e' ht hu
     split at h
     ·rename_i he
      subst he
      simp only [Option.bind_eq_some_iff] at h
      obtain ⟨i, hi, z, hz, h⟩ := h
      split at h
      ·rename_i hc
       simp only [Option.bind_eq_some_iff, Option.map_eq_some_iff] at h
       obtain ⟨a, ha, b, hb, rfl⟩ := h
       exact opS_app hx ht hu hi hc.1 hz hc.2 ha hb
      ·cases h
     ·cases h
    ·rename_i e kn ht hu
     simp only [Option.bind_eq_some_iff] at h
     obtain ⟨i, hi, z, hz, h⟩ := h
     split at h
     ·rename_i hc
      simp only [Option.bind_eq_some_iff, Option.map_eq_some_iff] at h
      obtain ⟨a, ha, b, hb, rfl⟩ := h
      exact opS_appz hx ht hu hi hc.1 hz hc.2.1 hc.2.2 ha hb
     ·cases h
    ·cases h
   ·cases h
  ·cases h
 case h_23 t hx => cases h; exact opS_mkmap hx
 case h_24 t m k ok hx =>
  split at h
  ·rename_i kt et ht
   simp only [Option.bind_eq_some_iff, Option.map_eq_some_iff] at h
   obtain ⟨g, hg, z, hz, a, ha, b, hb, rfl⟩ := h
   exact opS_look hx ht hg hz ha hb
  ·cases h
 case h_25 t m k v hx =>
  split at h
  ·rename_i kt et ht
   simp only [Option.bind_eq_some_iff, Option.map_eq_some_iff] at h
   obtain ⟨g, hg, a, ha, b, hb, c, hc, rfl⟩ := h
   exact opS_upd hx ht hg ha hb hc
  ·cases h
 case h_26 t x hx =>
  split at h
  ·rename_i ht
   simp only [Option.map_eq_some_iff] at h
   obtain ⟨a, ha, rfl⟩ := h
   exact opS_rng hx ht ha
  ·cases h
 case h_27 x hx =>
  simp only [Option.map_eq_some_iff] at h
  obtain ⟨a, ha, rfl⟩ := h
  exact opS_nxt hx ha
 case h_28 => cases h
end
end Go.AL
namespace Go.AL
open Go.RowKit
set_option linter.unusedVariables false
set_option linter.unusedSectionVars false
set_option linter.unusedSimpArgs false
/-! ### Regions in the order of the text -/
def Env.set (e : Env) (d : Option Nat) (v : AV) : Env :=
 match d with
 | some d => e.put d v
 | none => e
def wpOps (P : Program) (w₀ : World) : List AI → Env → AH → (Env → AH → Prop) → Prop
 | [], env, σ, K => K env σ
 | ai :: r, env, σ, K =>
   match ai.guard with
   | none => wpA P w₀ env σ ai.op fun v σ' => wpOps P w₀ r (env.set ai.dst v) σ' K
   | some (d, want) => match env.get d with
     | .bool b => if b = want then wpA P w₀ env σ ai.op fun v σ' => wpOps P w₀ r (env.set ai.dst v) σ' K else wpOps P w₀ r (env.set ai.dst (.tup [])) σ K
     | .tup _ => wpOps P w₀ r (env.set ai.dst (.tup [])) σ K
     | _ => False
def compAI (P : Program) (n : Nat) (ops : Array Oper) (o : Oper) : Option AI :=
 if o.dst.all (· < n) then
  (compOp P o).bind fun a => match o.guard with
   | none => some ⟨o.dst, none, a⟩
   | some (j, want) => ((ops[j]?).bind (·.dst)).map fun d => ⟨o.dst, some (d, want), a⟩
 else none
def compOps (P : Program) (n : Nat) (ops : Array Oper) : List Oper → Option (List AI)
 | [] => some []
 | o :: r => (compAI P n ops o).bind fun a => (compOps P n ops r).map fun l => a :: l
theorem Env.get_put_same (e : Env) (t : Nat) (v : AV) : (e.put t v).get t = v := by
 induction e with
 | nil => simp [Env.put, Env.get]
 | cons p e ih =>
   obtain ⟨a, x⟩ := p
   simp only [Env.put]
   split
   ·rename_i h; simp [Env.get, h]
   ·rename_i h; simp [Env.get, h, ih]
theorem Env.get_put_ne (e : Env) {t u : Nat} (v : AV) (h : u ≠ t) : (e.put t v).get u = e.get u := by
 induction e with
 | nil => simp [Env.put, Env.get, Ne.symm h]
 | cons p e ih =>
   obtain ⟨a, x⟩ := p
   simp only [Env.put]
   split
   ·rename_i h1; subst h1; simp [Env.get, Ne.symm h]
   ·rename_i h1; simp only [Env.get]; split <;> first | rfl | exact ih
theorem EnvR.put {F : Gh} {n : Nat} {env : Env} {a : Act} (h : EnvR F n env a.tmps) {d : Option Nat} (hd : d.all (· < n) = true) {v : AV} {cv : Value} (hv : Rel F v cv) : EnvR F n (env.set d v) (a.put d cv).tmps := by
 cases d with
 | none => exact h
 | some d =>
   have hd' : d < n := by simpa using hd
   simp only [Env.set, Act.put]
   refine ⟨by simp [h.1], fun t ht => ?_⟩
   by_cases htd : t = d
   ·subst htd
    rw [Env.get_put_same]
    exact ⟨cv, by simp [h.1, hd'], hv⟩
   ·rw [Env.get_put_ne _ _ htd] at ht ⊢
    obtain ⟨u, hu, hr⟩ := h.2 t ht
    exact ⟨u, by rw [Array.getElem?_setIfInBounds_ne (Ne.symm htd)]; exact hu, hr⟩
theorem compOp_notDefer {P : Program} {o : Oper} {ao : AOp} (h : compOp P o = some ao) (c : Call) : o.op ≠ .defer c := by
 rcases compOp_spec h with h | h
 ·intro hc; simp [compOp0, hc] at h
 ·exact h.2.1 c
def ring (ro : Option Nat) : Fence := { Fence.wide with round := ro }
theorem ring_room (ro : Option Nat) (n : Nat) : (ring ro).room n := fun _ h => by simp [ring, Fence.wide] at h
section
variable {P : Program} {w₀ : World} {F : Gh} {σ : AH} {w : World}
theorem upon_of_runs {ro : Option Nat} {o : Oper} {a : Act} {next : Act → World → Prop} {Q : Exit → Act → World → Prop} {r : Result Next} {K : Value → World → Prop}
  (h : Runs P r K) (hk : ∀ v w, K v w → next (a.put o.dst v) w) : o.uponIn (ring ro) 0 P a next Q r := by
 unfold Runs at h
 split at h
 ·exact hk _ _ h
 ·exact hk _ _ h
 ·refine ⟨fun h => by simp [ring, Fence.wide] at h, ?_⟩
  have h2 : CallsIn (ring ro) 0 P _ _ _ _ := callsIn_wide (n := 0).2 h
  exact h2.mono fun e w' ⟨v, he, hv⟩ => by subst he; exact hk _ _ hv
 ·refine ⟨fun h => by simp [ring, Fence.wide] at h, ?_⟩
  have h2 : RoundIn (ring ro) 0 P _ _ _ _ _ _ _ := h
  exact h2.mono fun e w' ⟨v, he, hv⟩ => by subst he; exact hk _ _ hv
 ·exact h.elim
theorem oper_wpIn {ro : Option Nat} {o : Oper} {ao : AOp} (hc : compOp P o = some ao) {a : Act} {next : Act → World → Prop} {Q : Exit → Act → World → Prop} {K : Value → World → Prop}
  (h : Runs P ((execOp a.eval o).run P w) K) (hk : ∀ v w, K v w → next (a.put o.dst v) w) : o.wpIn (ring ro) 0 P a w next Q := by
 refine ⟨fun _ _ => trivial, ?_⟩
 rw [Oper.semAt_eq _ _ _ (compOp_notDefer hc)]
 exact upon_of_runs h hk
theorem compAI_spec {n : Nat} {ops : Array Oper} {o : Oper} {ai : AI} (h : compAI P n ops o = some ai) :
  o.dst.all (· < n) = true ∧ ai.dst = o.dst ∧ compOp P o = some ai.op ∧
  ((o.guard = none ∧ ai.guard = none) ∨ ∃ j want d, o.guard = some (j, want) ∧ (ops[j]?).bind (·.dst) = some d ∧ ai.guard = some (d, want)) := by
 unfold compAI at h
 split at h
 ·rename_i hd
  simp only [Option.bind_eq_some_iff] at h
  obtain ⟨a, ha, h⟩ := h
  split at h
  ·rename_i hg; cases h; exact ⟨hd, rfl, ha, .inl ⟨hg, rfl⟩⟩
  ·rename_i j want hg
   simp only [Option.map_eq_some_iff] at h
   obtain ⟨d, hdd, rfl⟩ := h
   exact ⟨hd, rfl, ha, .inr ⟨j, want, d, hg, hdd, rfl⟩⟩
 ·cases h
theorem wanted_tup {n : Nat} {env : Env} {ops : Array Oper} {o : Oper} {a : Act} (he : EnvR F n env a.tmps) {j d : Nat} {want : Bool} {xs : List AV} (hg : o.guard = some (j, want)) (hd : (ops[j]?).bind (·.dst) = some d) (hb : env.get d = .tup xs) :
  Region.wanted o (yielded ops a.tmps) = false := by
 obtain ⟨v, hv, hr⟩ := he.2 d (by rw [hb]; simp)
 rw [hb] at hr
 cases hr
 simp [Region.wanted, hg, yielded, hd, hv]
theorem wanted_of {n : Nat} {env : Env} {ops : Array Oper} {o : Oper} {a : Act} (he : EnvR F n env a.tmps) {j d : Nat} {want b : Bool} (hg : o.guard = some (j, want)) (hd : (ops[j]?).bind (·.dst) = some d) (hb : env.get d = .bool b) :
  Region.wanted o (yielded ops a.tmps) = (b == want) := by
 obtain ⟨v, hv, hr⟩ := he.2 d (by rw [hb]; simp)
 rw [hb] at hr
 have := hr.bool_inv
 subst this
 simp only [Region.wanted, hg, yielded, hd, Option.bind_some, hv]
 cases b <;> cases want <;> rfl
def Left (w₀ : World) (F : Gh) (n : Nat) (dfs : List Deferred) (K : Env → AH → Prop) (a : Act) (w : World) : Prop :=
 ∃ F' env σ, F.le F' ∧ EnvR F' n env a.tmps ∧ a.defers = dfs ∧ Inv w₀ F' σ w ∧ K env σ
theorem Left.mono {n : Nat} {dfs : List Deferred} {K : Env → AH → Prop} {F₀ : Gh} (hF : F₀.le F) {a : Act} (h : Left w₀ F n dfs K a w) : Left w₀ F₀ n dfs K a w :=
 let ⟨F', env, σ, h1, h2⟩ := h; ⟨F', env, σ, Gh.le_trans hF h1, h2⟩
theorem put_defers (a : Act) (d : Option Nat) (v : Value) : (a.put d v).defers = a.defers := by cases d <;> rfl
theorem wpOps_sound {ro : Option Nat} {n : Nat} {ops : Array Oper} {Q : Exit → Act → World → Prop} {K : Env → AH → Prop} {dfs : List Deferred} : ∀ (l : List Oper) (is : List Nat) (ais : List AI) (F : Gh) (env : Env) (σ : AH) (a : Act) (w : World),
  (∀ k : Nat, l[k]? = (is[k]?).bind fun i : Nat => ops[i]?) → l.length = is.length → compOps P n ops l = some ais → EnvR F n env a.tmps → a.defers = dfs → Inv w₀ F σ w →
  wpOps P w₀ ais env σ K → (∀ a w, Left w₀ F n dfs K a w → Q .normal a w) → wpOpsIn (ring ro) 0 P ops Q is a w
 | [], is, ais, F, env, σ, a, w, hl, hlen, hc, he, hd, hI, h, hq => by
   cases hc
   cases is with
   | nil => exact hq _ _ ⟨F, env, σ, F.le_refl, he, hd, hI, h⟩
   | cons _ _ => simp at hlen
 | o :: l, is, ais, F, env, σ, a, w, hl, hlen, hc, he, hd, hI, h, hq => by
   cases is with
   | nil => simp at hlen
   | cons i is =>
     simp only [compOps, Option.bind_eq_some_iff, Option.map_eq_some_iff] at hc
     obtain ⟨ai, hai, ais', hais, rfl⟩ := hc
     obtain ⟨hdst, hdst2, hcop, hg⟩ := compAI_spec hai
     have ho : ops[i]? = some o := by have := hl 0; simpa using this.symm
     have hl' : ∀ k : Nat, l[k]? = (is[k]?).bind fun i : Nat => ops[i]? := fun k => by have := hl (k + 1); simpa using this
     have hlen' : l.length = is.length := by simpa using hlen
     have hop := he.opd (P := P) o.op.operands.toList
     simp only [wpOpsIn, ho]
     -- one operation and the rest
     have run : (wpA P w₀ env σ ai.op fun v σ' => wpOps P w₀ ais' (env.set ai.dst v) σ' K) → o.wpIn (ring ro) 0 P a w (wpOpsIn (ring ro) 0 P ops Q is) Q := fun h1 =>
      oper_wpIn hcop (opS hcop _ _ _ _ a w hop hI h1) fun v w' ⟨F', v', σ', hF, hr, hI', h2⟩ =>
       wpOps_sound l is ais' F' _ σ' _ w' hl' hlen' hais (hdst2 ▸ (he.mono hF).put hdst hr) (by rw [put_defers]; exact hd) hI' h2 (fun a w hL => hq a w (hL.mono hF))
     simp only [wpOps] at h
     rcases hg with ⟨g1, g2⟩ | ⟨j, want, d, g1, g2, g3⟩
     ·rw [g2] at h
      have hw : Region.wanted o (yielded ops a.tmps) = true := by simp [Region.wanted, g1]
      rw [if_pos hw]
      exact run h
     ·rw [g3] at h
      simp only at h
      split at h
      ·rename_i b hb
       have hw := wanted_of (o := o) he g1 g2 hb
       split at h
       ·rename_i hbw
        subst hbw
        rw [hw, if_pos (by simp)]
        exact run h
       ·rename_i hbw
        rw [hw, if_neg (by simpa using hbw)]
        refine ⟨fun _ _ => trivial, ?_⟩
        exact wpOps_sound l is ais' F _ σ _ w hl' hlen' hais (hdst2 ▸ he.put hdst (.tup .nil)) (by rw [put_defers]; exact hd) hI h hq
      ·rename_i xs hb
       rw [wanted_tup (o := o) he g1 g2 hb, if_neg (by simp)]
       refine ⟨fun _ _ => trivial, ?_⟩
       exact wpOps_sound l is ais' F _ σ _ w hl' hlen' hais (hdst2 ▸ he.put hdst (.tup .nil)) (by rw [put_defers]; exact hd) hI h hq
      ·exact h.elim
end
end Go.AL
namespace Go.AL
open Go.RowKit
set_option linter.unusedVariables false
set_option linter.unusedSectionVars false
set_option linter.unusedSimpArgs false
/-! ### What is asked -/
def Sim (v V : AV) : Prop := v = V ∨ v.bare = V ∨ ∃ vs, v = .tup vs ∧ V = .tup (vs.map AV.bare)
theorem RelL.bareAll {F : Gh} : ∀ {xs : List AV} {vs : List Value}, RelL F xs vs → RelL F (xs.map AV.bare) vs
 | [], [], _ => .nil
 | _ :: _, _ :: _, .cons h k => .cons h.bare k.bareAll
theorem Sim.rel {F : Gh} {v V : AV} {cv : Value} (h : Sim v V) (k : Rel F v cv) : Rel F V cv := by
 rcases h with rfl | rfl | ⟨vs, rfl, rfl⟩
 ·exact k
 ·exact k.bare
 ·cases k with
  | tup h => exact .tup h.bareAll
def Stable (P : Program) (w₀ : World) (env : Env) (σ₀ : AH) (op : AOp) (V : AV) : Prop :=
 ∀ σ, σ₀.le σ → wpA P w₀ env σ op fun v σ' => Sim v V ∧ σ.le σ'
def AOp.isNew : AOp → Option (List AV)
 | .new zs => some zs
 | _ => none
def AOp.headOk : AOp → Bool
 | .mv _ | .pick .. | .bin .. | .beq .. | .un .. | .len _ | .slen _ | .idx .. | .idxA .. | .ia .. | .iaA .. | .aeq .. | .fa .. | .nilck _ | .ld .. | .fld .. | .ext .. | .build .. | .bsl .. | .slc .. | .sub .. | .mkf .. | .itoi .. | .itos _ | .minmax .. | .call .. | .new _ | .app .. => true
 | _ => false
def AOp.late : AOp → Bool
 | .mv _ | .pick .. | .bin .. | .beq .. | .un .. | .len _ | .slen _ | .idx .. | .idxA .. | .ia .. | .iaA .. | .aeq .. | .fa .. | .nilck _ | .fld .. | .ext .. | .slc .. | .sub .. | .mkf .. | .itoi .. | .itos _ | .minmax .. => true
 | _ => false
def wpH (P : Program) (w₀ : World) (env : Env) (σ₀ : AH) (op : AOp) (K : AV → Prop) : Prop :=
 match op with
 | .call f args => ∃ V, (∀ σ, σ₀.le σ → ACallV P w₀ (ev env f) (args.map (ev env)) σ fun v σ' => Sim v V ∧ σ.le σ') ∧ K V
 | .slc sz x lo hi mx => match ev env x with
   | .lst sz' xs t => match bnd 0 (lo.map (ev env)), bnd xs.length (hi.map (ev env)), mx.map (ev env) with
     | some l, some h, none => sz' = sz ∧ 0 ≤ l ∧ l ≤ h ∧ h ≤ xs.length ∧ K (.lst sz ((xs.take h.toNat).drop l.toNat) .none)
     | some l, some h, some (.int _ m) => sz' = sz ∧ 0 ≤ l ∧ l ≤ h ∧ h = m ∧ h ≤ xs.length ∧ K (.lst sz ((xs.take h.toNat).drop l.toNat) .clip)
     | _, _, _ => False
   | .slc sz' b off n c => match bnd 0 (lo.map (ev env)), bnd n (hi.map (ev env)), mx.map (ev env) with
     | some l, some h, none => sz' = sz ∧ 0 ≤ l ∧ l ≤ h ∧ h ≤ n ∧ n ≤ c ∧ l < c ∧ K (.slc sz b (off + l.toNat * sz) (h.toNat - l.toNat) (c - l.toNat))
     | _, _, _ => False
   | _ => False
 | .len x => match ev env x with
   | .lst _ xs _ => K (.int .i64 xs.length)
   | .slc _ _ _ n _ => K (.int .i64 n)
   | _ => False
 | .slen x => match ev env x with
   | .str s => K (.int .i64 s.size)
   | _ => False
 | .app sz x y => match ev env x, ev env y with
   | .lst sz' xs .clip, .lst sz'' ys _ => sz' = sz ∧ sz'' = sz ∧ xs.length + ys.length ≤ 8589934592 ∧ K (.lst sz (xs ++ ys) .none)
   | _, _ => False
 | op => wpA P w₀ env σ₀ op fun v _ => K v
def wpD (P : Program) (w₀ : World) (σ₀ : AH) : List AI → Env → (Env → Prop) → Prop
 | [], env, K => K env
 | ai :: r, env, K =>
   match ai.op.isNew with
   | some _ => wpD P w₀ σ₀ r env K
   | none =>
     match ai.guard with
     | none => wpH P w₀ env σ₀ ai.op fun v => wpD P w₀ σ₀ r (env.set ai.dst v) K
     | some (d, want) => match env.get d with
       | .bool b => if b = want then wpH P w₀ env σ₀ ai.op fun v => wpD P w₀ σ₀ r (env.set ai.dst v) K else wpD P w₀ σ₀ r (env.set ai.dst (.tup [])) K
       | .tup _ => wpD P w₀ σ₀ r (env.set ai.dst (.tup [])) K
       | _ => False
def newsOf : List AI → List (Nat × List AV)
 | [] => []
 | ai :: r => match ai.op.isNew, ai.dst with
   | some zs, some d => (d, zs) :: newsOf r
   | _, _ => newsOf r
def wpNews (σ₀ σ : AH) : List (Nat × List AV) → List Nat → Env → (Env → Prop) → Prop
 | [], _, env, K => K env
 | (d, zs) :: r, prev, env, K => ∀ b, σ b = some (.cells zs) → σ₀ b = none → b ∉ prev → wpNews σ₀ σ r (b :: prev) (env.put d (.ptr b 0)) K
/-! ### What pure operations do they do in every heap that holds as much -/
theorem binA_det {op : BinOp} {x y : AV} {K : AV → Prop} (h : binA op x y K) : ∃ V, K V ∧ ∀ K' : AV → Prop, K' V → binA op x y K' := by
 unfold binA at h
 split at h
 ·rename_i k a k' b
  cases op <;> simp only at h <;> first
   | exact h.elim
   | (obtain ⟨h1, h2, h3⟩ := h; exact ⟨_, h3, fun K' hk => ⟨h1, h2, hk⟩⟩)
   | (obtain ⟨h1, h2⟩ := h; exact ⟨_, h2, fun K' hk => ⟨h1, hk⟩⟩)
 ·rename_i a b
  cases op <;> simp only at h <;> first
   | exact h.elim
   | (obtain ⟨h1, h2⟩ := h; exact ⟨_, h2, fun K' hk => ⟨h1, hk⟩⟩)
   | exact ⟨_, h, fun K' hk => hk⟩
 ·exact h.elim
theorem wpH_stable {P : Program} {w₀ : World} {env : Env} {σ₀ : AH} {op : AOp} {K : AV → Prop} (hn : op.isNew = none) (hok : op.headOk = true) (h : wpH P w₀ env σ₀ op K) : ∃ V, Stable P w₀ env σ₀ op V ∧ K V := by
 cases op with
 | call f args => exact h
 | slc sz x lo hi mx =>
   simp only [wpH] at h
   split at h
   ·rename_i sz' xs t hx
    split at h
    ·rename_i l hh hb1 hb2 hmx
     obtain ⟨h1, h2, h3, h4, h5⟩ := h
     refine ⟨_, fun σ _ => ?_, h5⟩
     simp only [wpA, hx, hb1, hb2, hmx]
     refine ⟨h1, h2, h3, h4, ?_⟩
     split
     ·split
      ·exact ⟨.inr (.inl rfl), σ.le_refl⟩
      ·exact fun t' _ => ⟨.inr (.inl rfl), σ.le_refl⟩
     ·exact ⟨.inl rfl, σ.le_refl⟩
    ·rename_i l hh k m hb1 hb2 hmx
     obtain ⟨h1, h2, h3, h4, h5, h6⟩ := h
     refine ⟨_, fun σ _ => ?_, h6⟩
     simp only [wpA, hx, hb1, hb2, hmx]
     exact ⟨h1, h2, h3, h4, h5, .inl rfl, σ.le_refl⟩
    ·exact h.elim
   ·rename_i sz' b off n c hx
    split at h
    ·rename_i l hh hb1 hb2 hmx
     obtain ⟨h1, h2, h3, h4, h5, h6, h7⟩ := h
     refine ⟨_, fun σ _ => ?_, h7⟩
     simp only [wpA, hx, hb1, hb2, hmx]
     exact ⟨h1, h2, h3, h4, h5, h6, .inl ⟨.inl rfl, σ.le_refl⟩⟩
    ·exact h.elim
   ·exact h.elim
 | new zs => cases hn
 | app sz x y =>
   simp only [wpH] at h
   split at h
   ·rename_i hx hy
    obtain ⟨h1, h2, h3, h4⟩ := h
    refine ⟨_, fun σ _ => ?_, h4⟩
    simp only [wpA, hx, hy]
    exact ⟨h1, h2, trivial, h3, .inl fun t' σ' ha => ⟨.inr (.inl rfl), fun c o hc => ha.kept c o hc rfl⟩⟩
   ·exact h.elim
 | mv x => exact ⟨_, fun σ _ => ⟨.inl rfl, σ.le_refl⟩, h⟩
 | mkf f a b => exact ⟨_, fun σ _ => ⟨.inl rfl, σ.le_refl⟩, h⟩
 | bin op x y =>
   obtain ⟨V, h1, h2⟩ := binA_det h
   exact ⟨V, fun σ _ => by simp only [wpA]; exact h2 _ ⟨.inl rfl, σ.le_refl⟩, h1⟩
 | un op x =>
   simp only [wpH, wpA, unA] at h
   split at h
   ·rename_i hx; exact ⟨_, fun σ _ => by simp only [wpA, unA, hx]; exact ⟨.inl rfl, σ.le_refl⟩, h⟩
   ·rename_i hx; exact ⟨_, fun σ _ => by simp only [wpA, unA, hx]; exact ⟨.inl rfl, σ.le_refl⟩, h⟩
   ·exact h.elim
 | pick c a b =>
   simp only [wpH, wpA] at h
   split at h
   ·rename_i t hx; exact ⟨_, fun σ _ => by simp only [wpA, hx]; exact ⟨.inl rfl, σ.le_refl⟩, h⟩
   ·exact h.elim
 | beq neg x y =>
   simp only [wpH, wpA] at h
   split at h
   ·rename_i hx hy; exact ⟨_, fun σ _ => by simp only [wpA, hx, hy]; exact ⟨.inl rfl, σ.le_refl⟩, h⟩
   ·exact h.elim
 | slen x =>
   simp only [wpH] at h
   split at h
   ·rename_i hx; exact ⟨_, fun σ _ => by simp only [wpA, hx]; exact fun _ => ⟨.inl rfl, σ.le_refl⟩, h⟩
   ·exact h.elim
 | len x =>
   simp only [wpH] at h
   split at h
   ·rename_i sz xs tk hx
    exact ⟨_, fun σ _ => by simp only [wpA, hx]; exact fun _ => ⟨.inl rfl, σ.le_refl⟩, h⟩
   ·rename_i hx; exact ⟨_, fun σ _ => by simp only [wpA, hx]; exact ⟨.inl rfl, σ.le_refl⟩, h⟩
   ·exact h.elim
 | idx x i =>
   simp only [wpH, wpA] at h
   split at h
   ·rename_i hx hi
    obtain ⟨h1, h2, h3⟩ := h
    exact ⟨_, fun σ _ => by simp only [wpA, hx, hi]; exact ⟨h1, h2, .inl rfl, σ.le_refl⟩, h3⟩
   ·exact h.elim
 | idxA g n sz x i =>
   simp only [wpH, wpA] at h
   split at h
   ·rename_i hx hi
    obtain ⟨h1, h2, h3, h4⟩ := h
    cases g with
    | true => exact ⟨_, fun σ _ => by simp only [wpA, hx, hi]; exact ⟨h1, h2, h3, .inl rfl, σ.le_refl⟩, h4⟩
    | false => exact ⟨_, fun σ _ => by simp only [wpA, hx, hi]; exact ⟨h1, h2, h3, h4.1, .inl rfl, σ.le_refl⟩, h4.2⟩
   ·exact h.elim
 | ia sz x i =>
   simp only [wpH, wpA] at h
   split at h
   ·rename_i hx hi
    obtain ⟨h1, h2, h3, h4⟩ := h
    exact ⟨_, fun σ _ => by simp only [wpA, hx, hi]; exact ⟨h1, h2, h3, .inl rfl, σ.le_refl⟩, h4⟩
   ·rename_i hx hi
    obtain ⟨h1, h2, h3, h4⟩ := h
    exact ⟨_, fun σ _ => by simp only [wpA, hx, hi]; exact ⟨h1, h2, h3, .inl rfl, σ.le_refl⟩, h4⟩
   ·exact h.elim
 | iaA n sz x i =>
   simp only [wpH, wpA] at h
   split at h
   ·rename_i hx hi
    obtain ⟨h1, h2, h3, h4⟩ := h
    exact ⟨_, fun σ _ => by simp only [wpA, hx, hi]; exact ⟨h1, h2, h3, .inl rfl, σ.le_refl⟩, h4⟩
   ·rename_i hx hi
    obtain ⟨h1, h2, h3⟩ := h
    exact ⟨_, fun σ _ => by simp only [wpA, hx, hi]; exact ⟨h1, h2, .inl rfl, σ.le_refl⟩, h3⟩
   ·exact h.elim
 | aeq neg n x y =>
   simp only [wpH, wpA] at h
   split at h
   ·rename_i hx hy
    split at h
    ·rename_i hi hj
     obtain ⟨h1, h2, h3, h4⟩ := h
     exact ⟨_, fun σ _ => by simp only [wpA, hx, hy, hi, hj]; exact ⟨h1, h2, h3, .inl rfl, σ.le_refl⟩, h4⟩
    ·exact h.elim
   ·exact h.elim
 | fa off n x =>
   simp only [wpH, wpA] at h
   split at h
   ·rename_i hx; exact ⟨_, fun σ _ => by simp only [wpA, hx]; exact ⟨h.1, .inl rfl, σ.le_refl⟩, h.2⟩
   ·rename_i hx; exact ⟨_, fun σ _ => by simp only [wpA, hx]; exact ⟨.inl rfl, σ.le_refl⟩, h⟩
   ·exact h.elim
 | nilck x =>
   simp only [wpH, wpA] at h
   split at h
   ·rename_i hx; exact ⟨_, fun σ _ => by simp only [wpA, hx]; exact ⟨.inl rfl, σ.le_refl⟩, h⟩
   ·rename_i hx; exact ⟨_, fun σ _ => by simp only [wpA, hx]; exact ⟨.inl rfl, σ.le_refl⟩, h⟩
   ·exact h.elim
 | ld g n x =>
   simp only [wpH, wpA] at h
   split at h
   ·rename_i hx
    cases g with
    | true => exact ⟨_, fun σ _ => by simp only [wpA, hx]; exact ⟨h.1, .inl rfl, σ.le_refl⟩, h.2⟩
    | false => exact ⟨_, fun σ _ => by simp only [wpA, hx]; exact ⟨h.1, .inl rfl, σ.le_refl⟩, h.2⟩
   ·rename_i b off hx
    split at h
    ·rename_i vs hσ
     cases g with
     | true => exact ⟨_, fun σ hle => by simp only [wpA, hx, hle _ _ hσ]; exact ⟨h.1, h.2.1, .inl rfl, σ.le_refl⟩, h.2.2⟩
     | false => exact ⟨_, fun σ hle => by simp only [wpA, hx, hle _ _ hσ]; exact ⟨h.1, .inl rfl, σ.le_refl⟩, h.2⟩
    ·exact h.elim
   ·exact h.elim
 | fld g off n x =>
   simp only [wpH, wpA] at h
   split at h
   ·rename_i hx
    cases g with
    | true => exact ⟨_, fun σ _ => by simp only [wpA, hx]; exact ⟨h.1, .inl rfl, σ.le_refl⟩, h.2⟩
    | false => exact ⟨_, fun σ _ => by simp only [wpA, hx]; exact ⟨h.1, h.2.1, .inl rfl, σ.le_refl⟩, h.2.2⟩
   ·exact h.elim
 | ext i x =>
   simp only [wpH, wpA] at h
   split at h
   ·rename_i hx; exact ⟨_, fun σ _ => by simp only [wpA, hx]; exact ⟨h.1, .inl rfl, σ.le_refl⟩, h.2⟩
   ·exact h.elim
 | build zs ps =>
   simp only [wpH, wpA] at h
   split at h
   ·rename_i hx; exact ⟨_, fun σ _ => by simp only [wpA, hx]; exact ⟨h.1, .inl rfl, σ.le_refl⟩, h.2⟩
   ·exact h.elim
 | bsl sz len z ps =>
   simp only [wpH, wpA] at h
   split at h
   ·rename_i hx; exact ⟨_, fun σ _ => by simp only [wpA, hx]; exact ⟨h.1, h.2.1, .inl rfl, σ.le_refl⟩, h.2.2⟩
   ·exact h.elim
 | sub x lo hi =>
   simp only [wpH, wpA] at h
   split at h
   ·rename_i hx
    split at h
    ·rename_i hl hh
     obtain ⟨h1, h2, h3, h4⟩ := h
     exact ⟨_, fun σ _ => by simp only [wpA, hx, hl, hh]; exact ⟨h1, h2, h3, .inl rfl, σ.le_refl⟩, h4⟩
    ·exact h.elim
   ·exact h.elim
 | itoi k x =>
   simp only [wpH, wpA] at h
   split at h
   ·rename_i hx; exact ⟨_, fun σ _ => by simp only [wpA, hx]; exact ⟨.inl rfl, σ.le_refl⟩, h⟩
   ·exact h.elim
 | itos x =>
   simp only [wpH, wpA] at h
   split at h
   ·rename_i hx; exact ⟨_, fun σ _ => by simp only [wpA, hx]; exact ⟨.inl rfl, σ.le_refl⟩, h⟩
   ·exact h.elim
 | minmax g xs =>
   simp only [wpH, wpA] at h
   split at h
   ·rename_i hx; exact ⟨_, fun σ _ => by simp only [wpA, hx]; exact ⟨h.1, .inl rfl, σ.le_refl⟩, h.2⟩
   ·exact h.elim
 | _ => cases hok
theorem binA_mono {op : BinOp} {x y : AV} {K K' : AV → Prop} (hk : ∀ v, K v → K' v) (h : binA op x y K) : binA op x y K' := by
 obtain ⟨V, h1, h2⟩ := binA_det h
 exact h2 _ (hk _ h1)
theorem late_mono {P : Program} {w₀ : World} {env : Env} {σ₀ σ : AH} {op : AOp} {K K' : AV → AH → Prop} (hl : op.late = true) (hk : ∀ v, K v σ₀ → K' v σ) (h : wpA P w₀ env σ₀ op K) : wpA P w₀ env σ op K' := by
 cases op with
 | mv x => exact hk _ h
 | mkf f a b => exact hk _ h
 | bin op x y => exact binA_mono (K := fun v => K v σ₀) (K' := fun v => K' v σ) hk h
 | un op x => simp only [wpA, unA] at h ⊢; split at h <;> first | exact hk _ h | exact h.elim
 | pick c a b => simp only [wpA] at h ⊢; split at h <;> first | exact hk _ h | exact h.elim
 | beq neg x y => simp only [wpA] at h ⊢; split at h <;> first | exact hk _ h | exact h.elim
 | slen x => simp only [wpA] at h ⊢; split at h <;> first | exact fun hx => hk _ (h hx) | exact h.elim
 | len x => simp only [wpA] at h ⊢; split at h <;> first | exact hk _ h | exact fun hx => hk _ (h hx) | exact h.elim
 | idx x i => simp only [wpA] at h ⊢; split at h <;> first | exact ⟨h.1, h.2.1, hk _ h.2.2⟩ | exact h.elim
 | idxA g n sz x i =>
   simp only [wpA] at h ⊢
   split at h
   ·refine ⟨h.1, h.2.1, h.2.2.1, ?_⟩
    have h4 := h.2.2.2
    cases g with
    | true => exact hk _ h4
    | false => exact ⟨h4.1, hk _ h4.2⟩
   ·exact h.elim
 | ia sz x i => simp only [wpA] at h ⊢; split at h <;> first | exact ⟨h.1, h.2.1, h.2.2.1, hk _ h.2.2.2⟩ | exact h.elim
 | iaA n sz x i => simp only [wpA] at h ⊢; split at h <;> first | exact ⟨h.1, h.2.1, h.2.2.1, hk _ h.2.2.2⟩ | exact ⟨h.1, h.2.1, hk _ h.2.2⟩ | exact h.elim
 | aeq neg n x y =>
   simp only [wpA] at h ⊢
   split at h
   ·split at h
    ·exact ⟨h.1, h.2.1, h.2.2.1, hk _ h.2.2.2⟩
    ·exact h.elim
   ·exact h.elim
 | fa off n x => simp only [wpA] at h ⊢; split at h <;> first | exact hk _ h | exact ⟨h.1, hk _ h.2⟩ | exact h.elim
 | nilck x => simp only [wpA] at h ⊢; split at h <;> first | exact hk _ h | exact h.elim
 | fld g off n x =>
   simp only [wpA] at h ⊢
   split at h
   ·refine ⟨h.1, ?_⟩
    have h2 := h.2
    cases g with
    | true => exact hk _ h2
    | false => exact ⟨h2.1, hk _ h2.2⟩
   ·exact h.elim
 | ext i x => simp only [wpA] at h ⊢; split at h <;> first | exact ⟨h.1, hk _ h.2⟩ | exact h.elim
 | sub x lo hi =>
   simp only [wpA] at h ⊢
   split at h
   ·split at h <;> first | exact ⟨h.1, h.2.1, h.2.2.1, hk _ h.2.2.2⟩ | exact h.elim
   ·exact h.elim
 | itoi k x => simp only [wpA] at h ⊢; split at h <;> first | exact hk _ h | exact h.elim
 | itos x => simp only [wpA] at h ⊢; split at h <;> first | exact hk _ h | exact h.elim
 | minmax g xs => simp only [wpA] at h ⊢; split at h <;> first | exact ⟨h.1, hk _ h.2⟩ | exact h.elim
 | slc sz x lo hi mx =>
   simp only [wpA] at h ⊢
   split at h
   ·split at h
    ·obtain ⟨h1, h2, h3, h4, h5⟩ := h
     refine ⟨h1, h2, h3, h4, ?_⟩
     split at h5
     ·rename_i hc
      rw [if_pos hc]
      split at h5
      ·rename_i hc2; rw [if_pos hc2]; exact hk _ h5
      ·rename_i hc2; rw [if_neg hc2]; exact fun t' ht => hk _ (h5 t' ht)
     ·rename_i hc; rw [if_neg hc]; exact hk _ h5
    ·obtain ⟨h1, h2, h3, h4, h5, h6⟩ := h
     exact ⟨h1, h2, h3, h4, h5, hk _ h6⟩
    ·exact h.elim
   ·split at h
    ·obtain ⟨h1, h2, h3, h4, h5, h6, h7⟩ := h
     exact ⟨h1, h2, h3, h4, h5, h6, h7.imp (hk _) fun ⟨q1, q2, q3, q4, q5⟩ => ⟨q1, q2, q3, q4, hk _ q5⟩⟩
    ·exact h.elim
   ·exact h.elim
 | _ => cases hl
end Go.AL
namespace Go.AL
open Go.RowKit
set_option linter.unusedVariables false
set_option linter.unusedSectionVars false
set_option linter.unusedSimpArgs false
/-! ### Which operations wait for which -/
def predsOf (o : Oper) : List Nat := (o.after.toList.filter (Region.binds .any)).map (·.on)
def maskOf (ms : List Nat) (ps : List Nat) : Nat := ps.foldl (fun m p => m ||| ((1 <<< p) ||| ms.getD p 0)) 0
def masks (ops : List Oper) : List Nat := ops.foldl (fun ms o => ms ++ [maskOf ms (predsOf o)]) []
def isNewO (o : Oper) : Bool := match o.op with | .alloc _ => true | _ => false
def readsOf (ops : List Oper) (o : Oper) : List Nat :=
 (o.op.operands.toList.filterMap fun | .tmp t => some t | _ => none) ++ (match o.guard with | none => [] | some (j, _) => ((ops[j]?).bind (·.dst)).toList)
structure DrawOk (ops : List Oper) (ms : List Nat) (late : List Bool) (m : Nat) : Prop where
 mask : ∀ (i : Nat) (o : Oper), ops[i]? = some o → ms.getD i 0 = maskOf ms (predsOf o) ∧ ∀ p ∈ predsOf o, p < i
 dsts : ∀ (i j : Nat) (o o' : Oper) (d : Nat), ops[i]? = some o → ops[j]? = some o' → o.dst = some d → o'.dst = some d → i = j
 reads : ∀ (i : Nat) (o : Oper), i < m → ops[i]? = some o → ∀ t ∈ readsOf ops o, ∀ (j : Nat) (o' : Oper), ops[j]? = some o' → o'.dst = some t → (j < i ∧ (ms.getD i 0).testBit j = true ∧ isNewO o' = false) ∨ (i < j ∧ (ms.getD j 0).testBit i = true)
 treads : ∀ (i : Nat) (o : Oper), m ≤ i → ops[i]? = some o → ∀ t ∈ readsOf ops o, ∀ (j : Nat) (o' : Oper), j < m → ops[j]? = some o' → o'.dst = some t → (ms.getD i 0).testBit j = true
 tail : ∀ (i : Nat) (o : Oper), m ≤ i → ops[i]? = some o → ∀ j, j < i → (ms.getD i 0).testBit j = true ∨ (j < m ∧ late.getD j false = true)
def drawOk (ops : List Oper) (ms : List Nat) (late : List Bool) (m : Nat) : Bool :=
 (List.range ops.length).all fun i => match ops[i]? with
  | none => true
  | some o =>
    (ms.getD i 0 == maskOf ms (predsOf o)) && (predsOf o).all (· < i) &&
    (match o.dst with | none => true | some d => (List.range ops.length).all fun j => match ops[j]? with | none => true | some o' => o'.dst != some d || i == j) &&
    (!(decide (i < m)) || (readsOf ops o).all fun t => (List.range ops.length).all fun j => match ops[j]? with
     | none => true
     | some o' => o'.dst != some t || (decide (j < i) && (ms.getD i 0).testBit j && !isNewO o') || (decide (i < j) && (ms.getD j 0).testBit i)) &&
    (!(decide (m ≤ i)) || (readsOf ops o).all fun t => (List.range m).all fun j => match ops[j]? with
     | none => true
     | some o' => o'.dst != some t || (ms.getD i 0).testBit j) &&
    (!(decide (m ≤ i)) || (List.range i).all fun j => (ms.getD i 0).testBit j || (decide (j < m) && late.getD j false))
theorem drawOk_spec {ops : List Oper} {ms : List Nat} {late : List Bool} {m : Nat} (h : drawOk ops ms late m = true) : DrawOk ops ms late m := by
 unfold drawOk at h
 rw [List.all_eq_true] at h
 have lt : ∀ {i : Nat} {o : Oper}, ops[i]? = some o → i < ops.length := fun {i o} hi => by
  rcases Nat.lt_or_ge i ops.length with h1 | h1
  ·exact h1
  ·rw [List.getElem?_eq_none h1] at hi; cases hi
 have key := fun (i : Nat) (o : Oper) (hi : ops[i]? = some o) => by
  have := h i (List.mem_range.2 (lt hi))
  rw [hi] at this
  simp only [Bool.and_eq_true] at this
  exact this
 refine ⟨fun i o hi => ?_, fun i j o o' d hi hj hd hd' => ?_, fun i o hm hi t ht j o' hj hd => ?_, fun i o hm hi t ht j o' hjm hj hd => ?_, fun i o hm hi j hj => ?_⟩
 ·obtain ⟨⟨⟨⟨⟨h1, h2⟩, _⟩, _⟩, _⟩, _⟩ := key i o hi
  refine ⟨by simpa using h1, fun p hp => ?_⟩
  rw [List.all_eq_true] at h2
  simpa using h2 p hp
 ·obtain ⟨⟨⟨⟨_, h3⟩, _⟩, _⟩, _⟩ := key i o hi
  rw [hd] at h3
  simp only [List.all_eq_true] at h3
  have := h3 j (List.mem_range.2 (lt hj))
  rw [hj] at this
  simpa [hd'] using this
 ·obtain ⟨⟨⟨_, h4⟩, _⟩, _⟩ := key i o hi
  simp only [hm, decide_true, Bool.not_true, Bool.false_or, List.all_eq_true] at h4
  have := h4 t ht j (List.mem_range.2 (lt hj))
  rw [hj] at this
  simpa [hd, Bool.or_eq_true, and_assoc] using this
 ·obtain ⟨⟨_, h5⟩, _⟩ := key i o hi
  simp only [hm, decide_true, Bool.not_true, Bool.false_or, List.all_eq_true] at h5
  have := h5 t ht j (List.mem_range.2 hjm)
  rw [hj] at this
  simpa [hd] using this
 ·obtain ⟨_, h6⟩ := key i o hi
  simp only [hm, decide_true, Bool.not_true, Bool.false_or, List.all_eq_true] at h6
  have := h6 j (List.mem_range.2 hj)
  simpa [Bool.or_eq_true] using this
theorem testBit_maskOf {ms : List Nat} {j : Nat} : ∀ {ps : List Nat}, (maskOf ms ps).testBit j = true → ∃ p ∈ ps, j = p ∨ (ms.getD p 0).testBit j = true := by
 have key : ∀ (ps : List Nat) (acc : Nat), (ps.foldl (fun m p => m ||| ((1 <<< p) ||| ms.getD p 0)) acc).testBit j = true → acc.testBit j = true ∨ ∃ p ∈ ps, j = p ∨ (ms.getD p 0).testBit j = true := by
  intro ps
  induction ps with
  | nil => intro acc h; exact .inl h
  | cons p ps ih =>
    intro acc h
    rcases ih _ h with h | ⟨q, hq, h⟩
    ·rw [Nat.testBit_or, Nat.testBit_or] at h
     simp only [Bool.or_eq_true] at h
     rcases h with h | h | h
     ·exact .inl h
     ·refine .inr ⟨p, by simp, .inl ?_⟩
      rw [Nat.one_shiftLeft, Nat.testBit_two_pow] at h
      simpa using (by simpa using h : p = j).symm
     ·exact .inr ⟨p, by simp, .inr h⟩
    ·exact .inr ⟨q, by simp [hq], h⟩
 intro ps h
 rcases key ps 0 h with h | h
 ·simp at h
 ·exact h
def DC (ops : List Oper) (L : Array Bool) : Prop := ∀ (i : Nat) (o : Oper), ops[i]? = some o → L.getD i false = true → ∀ p ∈ predsOf o, L.getD p false = true
theorem clo_listed {ops : List Oper} {ms : List Nat} {late : List Bool} {m : Nat} (hd : DrawOk ops ms late m) {L : Array Bool} (hL : DC ops L) (hlen : ∀ i, L.getD i false = true → i < ops.length) : ∀ (i : Nat) (o : Oper), ops[i]? = some o → (∀ p ∈ predsOf o, L.getD p false = true) →
  ∀ j, (ms.getD i 0).testBit j = true → L.getD j false = true := by
 intro i
 induction i using Nat.strongRecOn with
 | _ i ih =>
   intro o ho hp j hj
   rw [(hd.mask i o ho).1] at hj
   obtain ⟨p, hpm, h | h⟩ := testBit_maskOf hj
   ·subst h; exact hp _ hpm
   ·have hlt := (hd.mask i o ho).2 p hpm
    have hpl := hp p hpm
    obtain ⟨po, hpo⟩ : ∃ x, ops[p]? = some x := ⟨_, List.getElem?_eq_getElem (hlen p hpl)⟩
    exact ih p hlt _ hpo (fun q hq => hL p _ hpo hpl q hq) j h
/-! ### The chain of the head -/
def skips (x : AV) (want : Bool) : Prop := (∃ b, x = .bool b ∧ b ≠ want) ∨ ∃ ys, x = .tup ys
def StepOk (P : Program) (w₀ : World) (σ₀ : AH) (env : Env) (ai : AI) (V : AV) : Prop :=
 ((ai.guard = none ∨ ∃ d want, ai.guard = some (d, want) ∧ env.get d = .bool want) ∧ Stable P w₀ env σ₀ ai.op V) ∨
 (∃ d want, ai.guard = some (d, want) ∧ skips (env.get d) want ∧ V = .tup [])
inductive Chain (P : Program) (w₀ : World) (σ₀ : AH) : List AI → Env → List (Option AV) → Env → Prop
 | nil {env : Env} : Chain P w₀ σ₀ [] env [] env
 | new {ai : AI} {zs : List AV} {r : List AI} {env env' : Env} {vs : List (Option AV)} (h : ai.op.isNew = some zs) (k : Chain P w₀ σ₀ r env vs env') : Chain P w₀ σ₀ (ai :: r) env (none :: vs) env'
 | step {ai : AI} {V : AV} {r : List AI} {env env' : Env} {vs : List (Option AV)} (h : ai.op.isNew = none) (s : StepOk P w₀ σ₀ env ai V) (k : Chain P w₀ σ₀ r (env.set ai.dst V) vs env') : Chain P w₀ σ₀ (ai :: r) env (some V :: vs) env'
theorem wpD_chain {P : Program} {w₀ : World} {σ₀ : AH} {K : Env → Prop} : ∀ {ais : List AI} {env : Env}, (∀ ai ∈ ais, ai.op.headOk = true) → wpD P w₀ σ₀ ais env K → ∃ vs env', Chain P w₀ σ₀ ais env vs env' ∧ K env'
 | [], env, _, h => ⟨[], env, .nil, h⟩
 | ai :: ais, env, hok, h => by
   simp only [wpD] at h
   split at h
   ·rename_i zs hn
    obtain ⟨vs, env', h1, h2⟩ := wpD_chain (fun x hx => hok x (by simp [hx])) h
    exact ⟨_, _, .new hn h1, h2⟩
   ·rename_i hn
    split at h
    ·rename_i hg
     obtain ⟨V, h1, h2⟩ := wpH_stable hn (hok ai (by simp)) h
     obtain ⟨vs, env', h3, h4⟩ := wpD_chain (fun x hx => hok x (by simp [hx])) h2
     exact ⟨_, _, .step hn (.inl ⟨.inl hg, h1⟩) h3, h4⟩
    ·rename_i d want hg
     split at h
     ·rename_i b hb
      split at h
      ·rename_i hbw
       subst hbw
       obtain ⟨V, h1, h2⟩ := wpH_stable hn (hok ai (by simp)) h
       obtain ⟨vs, env', h3, h4⟩ := wpD_chain (fun x hx => hok x (by simp [hx])) h2
       exact ⟨_, _, .step hn (.inl ⟨.inr ⟨d, _, hg, hb⟩, h1⟩) h3, h4⟩
      ·rename_i hbw
       obtain ⟨vs, env', h3, h4⟩ := wpD_chain (fun x hx => hok x (by simp [hx])) h
       exact ⟨_, _, .step hn (.inr ⟨d, want, hg, .inl ⟨b, hb, hbw⟩, rfl⟩) h3, h4⟩
     ·rename_i ys hb
      obtain ⟨vs, env', h3, h4⟩ := wpD_chain (fun x hx => hok x (by simp [hx])) h
      exact ⟨_, _, .step hn (.inr ⟨d, want, hg, .inr ⟨ys, hb⟩, rfl⟩) h3, h4⟩
     ·exact h.elim
def envAt : List AI → List (Option AV) → Env → Nat → Env
 | ai :: ais, some V :: vs, env, k + 1 => envAt ais vs (env.set ai.dst V) k
 | _ :: ais, none :: vs, env, k + 1 => envAt ais vs env k
 | _, _, env, _ => env
theorem Chain.at {P : Program} {w₀ : World} {σ₀ : AH} : ∀ {ais : List AI} {env env' : Env} {vs : List (Option AV)}, Chain P w₀ σ₀ ais env vs env' → ∀ (i : Nat) (ai : AI), ais[i]? = some ai →
  (∃ zs, ai.op.isNew = some zs ∧ vs[i]? = some none) ∨ ∃ V, ai.op.isNew = none ∧ vs[i]? = some (some V) ∧ StepOk P w₀ σ₀ (envAt ais vs env i) ai V
 | _, _, _, _, .nil, i, ai, h => by simp at h
 | _, _, _, _, .new hn k, 0, ai, h => by simp at h; subst h; exact .inl ⟨_, hn, rfl⟩
 | _, _, _, _, .new hn k, i + 1, ai, h => by simpa [envAt] using k.at i ai (by simpa using h)
 | _, _, _, _, .step hn s k, 0, ai, h => by simp at h; subst h; exact .inr ⟨_, hn, rfl, by simpa [envAt] using s⟩
 | _, _, _, _, .step hn s k, i + 1, ai, h => by simpa [envAt] using k.at i ai (by simpa using h)
theorem Chain.end {P : Program} {w₀ : World} {σ₀ : AH} : ∀ {ais : List AI} {env env' : Env} {vs : List (Option AV)}, Chain P w₀ σ₀ ais env vs env' → envAt ais vs env ais.length = env' ∧ vs.length = ais.length
 | _, _, _, _, .nil => ⟨rfl, rfl⟩
 | _, _, _, _, .new hn k => by simpa [envAt] using k.end
 | _, _, _, _, .step hn s k => by simpa [envAt] using k.end
theorem Env.get_set_ne (e : Env) {d : Option Nat} {t : Nat} (v : AV) (h : d ≠ some t) : (e.set d v).get t = e.get t := by
 cases d with
 | none => rfl
 | some d => exact Env.get_put_ne _ _ (fun e => h (by rw [e]))
theorem envAt_other : ∀ {ais : List AI} {vs : List (Option AV)} {env : Env} {k t : Nat}, (∀ j ai V, j < k → ais[j]? = some ai → vs[j]? = some (some V) → ai.dst ≠ some t) → (envAt ais vs env k).get t = env.get t
 | [], _, _, k, _, _ => by cases k <;> rfl
 | _ :: _, [], _, k, _, _ => by cases k <;> rfl
 | _ :: _, v :: _, _, 0, _, _ => by cases v <;> rfl
 | ai :: ais, some V :: vs, env, k + 1, t, h => by
   rw [envAt, envAt_other (fun j a W hj h1 h2 => h (j + 1) a W (by omega) (by simpa using h1) (by simpa using h2))]
   exact Env.get_set_ne _ _ (h 0 ai V (by omega) rfl rfl)
 | ai :: ais, none :: vs, env, k + 1, t, h => by
   rw [envAt, envAt_other (fun j a W hj h1 h2 => h (j + 1) a W (by omega) (by simpa using h1) (by simpa using h2))]
theorem envAt_same : ∀ {ais : List AI} {vs : List (Option AV)} {env : Env} {k t j : Nat} {ai : AI} {V : AV}, j < k → ais[j]? = some ai → vs[j]? = some (some V) → ai.dst = some t →
  (∀ j' ai', j' ≠ j → ais[j']? = some ai' → ai'.dst ≠ some t) → (envAt ais vs env k).get t = V
 | [], _, _, _, _, _, _, _, _, h1, _, _, _ => by simp at h1
 | _ :: _, [], _, _, _, _, _, _, _, _, h2, _, _ => by simp at h2
 | a :: ais, some W :: vs, env, k + 1, t, 0, ai, V, hj, h1, h2, hd, hu => by
   simp at h1 h2
   subst h1; subst h2
   rw [envAt, envAt_other (fun j' a' W' _ h3 _ => hu (j' + 1) a' (by omega) (by simpa using h3)), hd]
   exact Env.get_put_same _ _ _
 | a :: ais, none :: vs, env, k + 1, t, 0, ai, V, hj, h1, h2, hd, hu => by simp at h2
 | a :: ais, some W :: vs, env, k + 1, t, j + 1, ai, V, hj, h1, h2, hd, hu => by
   rw [envAt]
   exact envAt_same (k := k) (j := j) (by omega) (by simpa using h1) (by simpa using h2) hd (fun j' a' hne h3 => hu (j' + 1) a' (by omega) (by simpa using h3))
 | a :: ais, none :: vs, env, k + 1, t, j + 1, ai, V, hj, h1, h2, hd, hu => by
   rw [envAt]
   exact envAt_same (k := k) (j := j) (by omega) (by simpa using h1) (by simpa using h2) hd (fun j' a' hne h3 => hu (j' + 1) a' (by omega) (by simpa using h3))
 | _ :: _, _ :: _, _, 0, _, _, _, _, hj, _, _, _, _ => by omega
end Go.AL
namespace Go.AL
open Go.RowKit
set_option linter.unusedVariables false
set_option linter.unusedSectionVars false
set_option linter.unusedSimpArgs false
theorem getD_true_false {L : Array Bool} {i : Nat} (hi : i < L.size) : L.getD i true = L.getD i false := by
 simp [Array.getD_eq_getD_getElem?, hi]
def SlotR (F : Gh) (tmps : Array Value) (t : Nat) (x : AV) : Prop := x ≠ .any → ∃ v, tmps[t]? = some v ∧ Rel F x v
theorem SlotR.mono {F G : Gh} (hF : F.le G) {tmps : Array Value} {t : Nat} {x : AV} (h : SlotR F tmps t x) : SlotR G tmps t x := fun hx => let ⟨v, h1, h2⟩ := h hx; ⟨v, h1, h2.mono hF⟩
theorem SlotR.put {F : Gh} {a : Act} {d : Option Nat} {cv : Value} {t : Nat} {x : AV} (h : SlotR F a.tmps t x) (hd : d ≠ some t) : SlotR F (a.put d cv).tmps t x := fun hx => by
 obtain ⟨v, h1, h2⟩ := h hx
 refine ⟨v, ?_, h2⟩
 cases d with
 | none => exact h1
 | some d => simp only [Act.put]; rw [Array.getElem?_setIfInBounds_ne (fun e => hd (by rw [e]))]; exact h1
theorem slot_put_same {a : Act} {d : Nat} {cv : Value} (hd : d < a.tmps.size) : (a.put (some d) cv).tmps[d]? = some cv := by simp [Act.put, hd]
theorem size_put (a : Act) (d : Option Nat) (v : Value) : (a.put d v).tmps.size = a.tmps.size := by cases d <;> simp [Act.put]
section
variable {P : Program} {w₀ : World}
theorem compOps_at {n : Nat} {ops : Array Oper} : ∀ {l : List Oper} {ais : List AI}, compOps P n ops l = some ais → ais.length = l.length ∧ ∀ (i : Nat) (o : Oper), l[i]? = some o → ∃ ai, ais[i]? = some ai ∧ compAI P n ops o = some ai
 | [], ais, h => by cases h; exact ⟨rfl, fun i o h => by simp at h⟩
 | x :: l, ais, h => by
   simp only [compOps, Option.bind_eq_some_iff, Option.map_eq_some_iff] at h
   obtain ⟨a, ha, r, hr, rfl⟩ := h
   have ih := compOps_at hr
   refine ⟨by simp [ih.1], fun i o ho => ?_⟩
   cases i with
   | zero => simp at ho; subst ho; exact ⟨a, rfl, ha⟩
   | succ i => simpa using ih.2 i o (by simpa using ho)
def headChk : List Oper → List AI → Bool
 | [], [] => true
 | o :: os, a :: as => a.op.headOk && (isNewO o == a.op.isNew.isSome) && (!a.op.isNew.isSome || (a.guard.isNone && a.dst.isSome)) && headChk os as
 | _, _ => false
theorem headChk_at : ∀ {os : List Oper} {as : List AI}, headChk os as = true → ∀ (i : Nat) (o : Oper) (a : AI), os[i]? = some o → as[i]? = some a →
  a.op.headOk = true ∧ isNewO o = a.op.isNew.isSome ∧ (a.op.isNew.isSome = true → a.guard = none ∧ ∃ d, a.dst = some d)
 | [], _, _, i, o, a, h, _ => by simp at h
 | _ :: _, [], h, _, _, _, _, _ => by cases h
 | x :: os, y :: as, h, i, o, a, h1, h2 => by
   simp only [headChk, Bool.and_eq_true] at h
   obtain ⟨⟨⟨k1, k2⟩, k3⟩, k4⟩ := h
   cases i with
   | zero =>
     simp at h1 h2
     subst h1; subst h2
     refine ⟨k1, by simpa using k2, fun hn => ?_⟩
     rw [hn] at k3
     simp only [Bool.not_true, Bool.false_or, Bool.and_eq_true] at k3
     exact ⟨by simpa using k3.1, Option.isSome_iff_exists.1 k3.2⟩
   | succ i => exact headChk_at k4 i o a (by simpa using h1) (by simpa using h2)
def lateOf (ais : List AI) : List Bool := ais.map fun a => a.op.late
structure DCtx (P : Program) (w₀ : World) (n : Nat) (ops : Array Oper) (ais : List AI) (ms : List Nat) (m : Nat) (env₀ : Env) (σ₀ : AH) (vs : List (Option AV)) (envm : Env) : Prop where
 dok : DrawOk ops.toList ms (lateOf ais) m
 comp : compOps P n ops ops.toList = some ais
 chk : headChk (ops.toList.take m) (ais.take m) = true
 chain : Chain P w₀ σ₀ (ais.take m) env₀ vs envm
structure HInv (P : Program) (w₀ : World) (n : Nat) (ops : Array Oper) (ais : List AI) (m : Nat) (env₀ : Env) (σ₀ : AH) (vs : List (Option AV)) (dfs : List Deferred) (F₀ : Gh) (L : Array Bool) (a : Act) (w : World) (F : Gh) (σ : AH) (B : Nat → Nat) : Prop where
 gh : F₀.le F
 hp : σ₀.le σ
 inv : Inv w₀ F σ w
 dfs : a.defers = dfs
 sz : a.tmps.size = n
 lsz : L.size = ops.size
 dc : DC ops.toList L
 notail : ∀ i, m ≤ i → L.getD i false = false
 val : ∀ (i : Nat) (ai : AI) (V : AV) (d : Nat), ais[i]? = some ai → i < m → L.getD i false = true → vs[i]? = some (some V) → ai.dst = some d → SlotR F a.tmps d V
 new : ∀ (i : Nat) (ai : AI) (zs : List AV) (d : Nat), ais[i]? = some ai → i < m → L.getD i false = true → ai.op.isNew = some zs → ai.dst = some d → SlotR F a.tmps d (.ptr (B i) 0) ∧ σ (B i) = some (.cells zs) ∧ σ₀ (B i) = none
 inj : ∀ (i j : Nat) (ai aj : AI), ais[i]? = some ai → ais[j]? = some aj → i < m → j < m → L.getD i false = true → L.getD j false = true → ai.op.isNew.isSome = true → aj.op.isNew.isSome = true → i ≠ j → B i ≠ B j
 old : ∀ (t : Nat), (∀ (i : Nat) (ai : AI), ais[i]? = some ai → i < m → L.getD i false = true → ai.dst ≠ some t) → SlotR F a.tmps t (env₀.get t)
variable {n : Nat} {ops : Array Oper} {ais : List AI} {ms : List Nat} {m : Nat} {env₀ envm : Env} {σ₀ : AH} {vs : List (Option AV)} {dfs : List Deferred} {F₀ : Gh}
theorem mem_preds {o : Oper} {p : Nat} : p ∈ predsOf o ↔ ∃ e ∈ o.after, Region.binds .any e = true ∧ e.on = p := by
 simp only [predsOf, List.mem_map, List.mem_filter, Array.mem_toList_iff, and_assoc]
theorem ready_iff {L : Array Bool} (hs : L.size = ops.size) {i : Nat} : i ∈ Region.ready .any ops L ↔ L.getD i false = false ∧ ∃ o, ops.toList[i]? = some o ∧ ∀ p ∈ predsOf o, L.getD p false = true := by
 rw [mem_ready]
 constructor
 ·rintro ⟨h1, o, ho, h2⟩
  have hi : i < ops.size := (Array.getElem?_eq_some_iff.1 ho).1
  refine ⟨by rw [← getD_true_false (by omega)]; exact h1, o, by simpa using ho, fun p hp => ?_⟩
  obtain ⟨e, he, hb, rfl⟩ := mem_preds.1 hp
  exact h2 e he hb
 ·rintro ⟨h1, o, ho, h2⟩
  have ho' : ops[i]? = some o := by simpa using ho
  have hi : i < ops.size := (Array.getElem?_eq_some_iff.1 ho').1
  exact ⟨by rw [getD_true_false (by omega)]; exact h1, o, ho', fun e he hb => h2 _ (mem_preds.2 ⟨e, he, hb, rfl⟩)⟩
theorem getD_set {L : Array Bool} {i j : Nat} (hi : i < L.size) : (L.setIfInBounds i true).getD j false = if j = i then true else L.getD j false := by
 by_cases h : j = i
 ·subst h; simp [Array.getD_eq_getD_getElem?, hi]
 ·rw [if_neg h]; simp [Array.getD_eq_getD_getElem?, Array.getElem?_setIfInBounds_ne (Ne.symm h)]
theorem take_at {α : Type} {l : List α} {m i : Nat} (h : i < m) : (l.take m)[i]? = l[i]? := by rw [List.getElem?_take, if_pos h]
theorem DCtx.one (h : DCtx P w₀ n ops ais ms m env₀ σ₀ vs envm) {i j : Nat} {ai aj : AI} {d : Nat} (hi : ais[i]? = some ai) (hj : ais[j]? = some aj) (hd : ai.dst = some d) (hd' : aj.dst = some d) : i = j := by
 have hc := compOps_at h.comp
 have get : ∀ {k : Nat} {ak : AI}, ais[k]? = some ak → ∃ o, ops.toList[k]? = some o ∧ compAI P n ops o = some ak := fun {k ak} hk => by
  have hlt : k < ops.toList.length := by
   rw [← hc.1]
   rcases Nat.lt_or_ge k ais.length with h1 | h1
   ·exact h1
   ·rw [List.getElem?_eq_none h1] at hk; cases hk
  obtain ⟨a, ha, hca⟩ := hc.2 k _ (List.getElem?_eq_getElem hlt)
  rw [hk] at ha; cases ha
  exact ⟨_, List.getElem?_eq_getElem hlt, hca⟩
 obtain ⟨o, ho, hco⟩ := get hi
 obtain ⟨o', ho', hco'⟩ := get hj
 exact h.dok.dsts i j o o' d ho ho' (by rw [← (compAI_spec hco).2.1]; exact hd) (by rw [← (compAI_spec hco').2.1]; exact hd')
theorem DCtx.op (h : DCtx P w₀ n ops ais ms m env₀ σ₀ vs envm) {i : Nat} {o : Oper} (ho : ops.toList[i]? = some o) : ∃ ai, ais[i]? = some ai ∧ compAI P n ops o = some ai := (compOps_at h.comp).2 i o ho
theorem DCtx.oper (h : DCtx P w₀ n ops ais ms m env₀ σ₀ vs envm) {k : Nat} {ak : AI} (hk : ais[k]? = some ak) : ∃ o, ops.toList[k]? = some o ∧ compAI P n ops o = some ak := by
 have hc := compOps_at h.comp
 have hlt : k < ops.toList.length := by
  rw [← hc.1]
  rcases Nat.lt_or_ge k ais.length with h1 | h1
  ·exact h1
  ·rw [List.getElem?_eq_none h1] at hk; cases hk
 obtain ⟨a, ha, hca⟩ := hc.2 k _ (List.getElem?_eq_getElem hlt)
 rw [hk] at ha; cases ha
 exact ⟨_, List.getElem?_eq_getElem hlt, hca⟩
theorem HInv.seen (hc : DCtx P w₀ n ops ais ms m env₀ σ₀ vs envm) {L : Array Bool} {a : Act} {w : World} {F : Gh} {σ : AH} {B : Nat → Nat} (h : HInv P w₀ n ops ais m env₀ σ₀ vs dfs F₀ L a w F σ B)
  {i : Nat} (hi : i < m) {o : Oper} (ho : ops.toList[i]? = some o) (hn : L.getD i false = false) (hp : ∀ p ∈ predsOf o, L.getD p false = true) {t : Nat} (ht : t ∈ readsOf ops.toList o) : SlotR F a.tmps t ((envAt (ais.take m) vs env₀ i).get t) := by
 have hlen : ∀ j, L.getD j false = true → j < ops.toList.length := fun j hj => by
  rcases Nat.lt_or_ge j L.size with h1 | h1
  ·rw [h.lsz] at h1; simpa using h1
  ·simp [Array.getD_eq_getD_getElem?, Array.getElem?_eq_none h1] at hj
 by_cases hex : ∃ (j : Nat) (aj : AI) (V : AV), j < i ∧ ais[j]? = some aj ∧ vs[j]? = some (some V) ∧ aj.dst = some t
 ·obtain ⟨j, aj, V, hji, haj, hV, hd⟩ := hex
  rw [envAt_same (j := j) (ai := aj) (V := V) hji (by rw [take_at (by omega)]; exact haj) hV hd (fun j' a' hne h3 hd' => by
   have hj'm : j' < m := by
    rcases Nat.lt_or_ge j' m with h1 | h1
    ·exact h1
    ·rw [List.getElem?_eq_none (by rw [List.length_take]; omega)] at h3; cases h3
   rw [take_at hj'm] at h3
   exact hne (hc.one h3 haj hd' hd))]
  obtain ⟨oj, hoj, hcj⟩ := hc.oper haj
  have := hc.dok.reads i o hi ho t ht j oj hoj (by rw [← (compAI_spec hcj).2.1]; exact hd)
  rcases this with ⟨_, hbit, _⟩ | ⟨hlt, _⟩
  ·exact h.val j aj V t haj (by omega) (clo_listed hc.dok h.dc hlen i o ho hp j hbit) hV hd
  ·omega
 ·rw [envAt_other (fun j aj V hj h1 h2 hd => by
   rw [take_at (by omega)] at h1
   exact hex ⟨j, aj, V, hj, h1, h2, hd⟩)]
  refine h.old t fun j aj haj hjm hjl hd => ?_
  obtain ⟨oj, hoj, hcj⟩ := hc.oper haj
  have := hc.dok.reads i o hi ho t ht j oj hoj (by rw [← (compAI_spec hcj).2.1]; exact hd)
  rcases this with ⟨hji, hbit, hnew⟩ | ⟨hlt, hbit⟩
  ·rcases hc.chain.at j aj (by rw [take_at hjm]; exact haj) with ⟨zs, hz, _⟩ | ⟨V, _, hV, _⟩
   ·have hk := (headChk_at hc.chk j oj aj (by rw [take_at hjm]; exact hoj) (by rw [take_at hjm]; exact haj)).2.1
    rw [hnew, hz] at hk; cases hk
   ·exact hex ⟨j, aj, V, hji, haj, hV, hd⟩
  ·have := clo_listed hc.dok h.dc hlen j oj hoj (h.dc j oj hoj hjl) i hbit
   rw [hn] at this; cases this
theorem HInv.put (hc : DCtx P w₀ n ops ais ms m env₀ σ₀ vs envm) {L : Array Bool} {a : Act} {w w' : World} {F F' : Gh} {σ σ' : AH} {B : Nat → Nat} (h : HInv P w₀ n ops ais m env₀ σ₀ vs dfs F₀ L a w F σ B)
  {i : Nat} (hi : i < m) {o : Oper} {ai : AI} (ho : ops.toList[i]? = some o) (hai : ais[i]? = some ai) (hca : compAI P n ops o = some ai) (hn : L.getD i false = false) (hp : ∀ p ∈ predsOf o, L.getD p false = true)
  (hF : F.le F') (hσ : σ.le σ') (hI : Inv w₀ F' σ' w') {cv : Value}
  (hval : ∀ V, vs[i]? = some (some V) → Rel F' V cv) {b : Nat} (hnew : ∀ zs, ai.op.isNew = some zs → cv = .pointer (some ⟨b, 0, none⟩) ∧ σ' b = some (.cells zs) ∧ σ b = none) :
  HInv P w₀ n ops ais m env₀ σ₀ vs dfs F₀ (L.setIfInBounds i true) (a.put o.dst cv) w' F' σ' (fun k => if k = i then b else B k) := by
 obtain ⟨hdst, hdst2, hcop, hg⟩ := compAI_spec hca
 have hiL : i < L.size := by
  rw [h.lsz]
  have : i < ops.toList.length := by
   rcases Nat.lt_or_ge i ops.toList.length with h1 | h1
   ·exact h1
   ·rw [List.getElem?_eq_none h1] at ho; cases ho
  simpa using this
 have hg' : ∀ j, (L.setIfInBounds i true).getD j false = if j = i then true else L.getD j false := fun j => getD_set hiL
 have hother : ∀ {j : Nat} {aj : AI} {d : Nat}, ais[j]? = some aj → j ≠ i → aj.dst = some d → o.dst ≠ some d := fun {j aj d} haj hne hd e => hne (hc.one haj hai hd (by rw [hdst2]; exact e))
 refine ⟨Gh.le_trans h.gh hF, AH.le_trans h.hp hσ, hI, by rw [put_defers]; exact h.dfs, by rw [size_put]; exact h.sz, by simpa using h.lsz, ?_, ?_, ?_, ?_, ?_, ?_⟩
 ·intro j oj hoj hj p hpp
  rw [hg'] at hj ⊢
  split
  ·rfl
  ·split at hj
   ·rename_i h1 h2; subst h2; rw [ho] at hoj; cases hoj; exact hp p hpp
   ·exact h.dc j oj hoj hj p hpp
 ·intro j hj
  rw [hg', if_neg (by omega)]; exact h.notail j hj
 ·intro j aj V d haj hjm hjl hV hd
  by_cases hji : j = i
  ·subst hji
   rw [hai] at haj; cases haj
   intro _
   have hd' : o.dst = some d := by rw [← hdst2]; exact hd
   rw [hd']
   have hdn : d < n := by rw [hd'] at hdst; simpa using hdst
   exact ⟨cv, slot_put_same (by rw [h.sz]; exact hdn), hval V hV⟩
  ·rw [hg', if_neg hji] at hjl
   exact ((h.val j aj V d haj hjm hjl hV hd).mono hF).put (hother haj hji hd)
 ·intro j aj zs d haj hjm hjl hz hd
  by_cases hji : j = i
  ·subst hji
   rw [hai] at haj; cases haj
   obtain ⟨h1, h2, h3⟩ := hnew zs hz
   have hd' : o.dst = some d := by rw [← hdst2]; exact hd
   have hdn : d < n := by rw [hd'] at hdst; simpa using hdst
   simp only [if_true]
   refine ⟨fun _ => ⟨cv, by rw [hd']; exact slot_put_same (by rw [h.sz]; exact hdn), by rw [h1]; exact .ptr _ _⟩, h2, AH.le_none h.hp h3⟩
  ·rw [hg', if_neg hji] at hjl
   obtain ⟨h1, h2, h3⟩ := h.new j aj zs d haj hjm hjl hz hd
   simp only [hji, if_false]
   exact ⟨(h1.mono hF).put (hother haj hji hd), hσ _ _ h2, h3⟩
 ·intro j k aj ak haj hak hjm hkm hjl hkl hjn hkn hne
  rw [hg'] at hjl hkl
  have fresh : ∀ {q : Nat} {aq : AI}, ais[q]? = some aq → q < m → q ≠ i → L.getD q false = true → aq.op.isNew.isSome = true → ai.op.isNew.isSome = true → B q ≠ b := fun {q aq} haq hqm hqi hql hqn hin e => by
   obtain ⟨zs, hz⟩ := Option.isSome_iff_exists.1 hqn
   obtain ⟨zs', hz'⟩ := Option.isSome_iff_exists.1 hin
   obtain ⟨oq, hoq, hcq⟩ := hc.oper haq
   obtain ⟨d, hd⟩ := ((headChk_at hc.chk q oq aq (by rw [take_at hqm]; exact hoq) (by rw [take_at hqm]; exact haq)).2.2 hqn).2
   have h1 := (h.new q aq zs d haq hqm hql hz hd).2.1
   have h2 := (hnew zs' hz').2.2
   rw [e, h2] at h1; cases h1
  by_cases hji : j = i
  ·subst hji
   rw [hai] at haj; cases haj
   have hki : k ≠ j := fun e => hne e.symm
   rw [if_neg hki] at hkl
   simp only [hki, if_true, if_false]
   exact fun e => fresh hak hkm hki hkl hkn hjn e.symm
  ·rw [if_neg hji] at hjl
   by_cases hki : k = i
   ·subst hki
    rw [hai] at hak; cases hak
    simp only [hji, if_true, if_false]
    exact fresh haj hjm hji hjl hjn hkn
   ·rw [if_neg hki] at hkl
    simp only [hji, hki, if_false]
    exact h.inj j k aj ak haj hak hjm hkm hjl hkl hjn hkn hne
 ·intro t ht
  have hot : o.dst ≠ some t := by
   rw [← hdst2]
   exact ht i ai hai hi (by rw [hg', if_pos rfl])
  refine ((h.old t fun j aj haj hjm hjl => ?_).mono hF).put hot
  refine ht j aj haj hjm ?_
  rw [hg']; split <;> simp [hjl]
theorem OpdR_of_slots {F : Gh} {env : Env} {a : Act} {xs : List Operand} (h : ∀ t, Operand.tmp t ∈ xs → SlotR F a.tmps t (env.get t)) : OpdR P F env a.eval xs := by
 intro x hx ty ax hax
 cases x with
 | tmp t =>
   cases hax
   simp only [ev, Act.eval]
   by_cases ht : env.get t = .any
   ·rw [ht]; exact .any _
   ·obtain ⟨v, h1, h2⟩ := h t hx ht
    rw [show a.tmps.getD t undef = v by simp [Array.getD_eq_getD_getElem?, h1]]; exact h2
 | const v =>
   simp only [cOpd, Option.map_eq_some_iff] at hax
   obtain ⟨y, hy, rfl⟩ := hax
   exact (constAV_rel hy F).1
 | global g => cases hax
 | func f => cases hax; exact .fn _ .nil .nil
theorem wanted_slot {F : Gh} {env : Env} {o : Oper} {a : Act} {j d : Nat} {want b : Bool} (hs : SlotR F a.tmps d (env.get d)) (hg : o.guard = some (j, want)) (hd : (ops[j]?).bind (·.dst) = some d) (hb : env.get d = .bool b) :
  Region.wanted o (yielded ops a.tmps) = (b == want) := by
 obtain ⟨v, hv, hr⟩ := hs (by rw [hb]; simp)
 rw [hb] at hr
 have := hr.bool_inv
 subst this
 simp only [Region.wanted, hg, yielded, hd, Option.bind_some, hv]
 cases b <;> cases want <;> rfl
theorem wanted_skip {F : Gh} {env : Env} {o : Oper} {a : Act} {j d : Nat} {want : Bool} (hs : SlotR F a.tmps d (env.get d)) (hg : o.guard = some (j, want)) (hd : (ops[j]?).bind (·.dst) = some d) (hb : skips (env.get d) want) :
  Region.wanted o (yielded ops a.tmps) = false := by
 rcases hb with ⟨b, hb, hne⟩ | ⟨ys, hb⟩
 ·rw [wanted_slot hs hg hd hb]; simpa using hne
 ·obtain ⟨v, hv, hr⟩ := hs (by rw [hb]; simp)
  rw [hb] at hr
  cases hr
  simp [Region.wanted, hg, yielded, hd, hv]
theorem head_step {ro : Option Nat} {Q : Exit → Act → World → Prop} (hc : DCtx P w₀ n ops ais ms m env₀ σ₀ vs envm) {L : Array Bool} {a : Act} {w : World} {F : Gh} {σ : AH} {B : Nat → Nat} (h : HInv P w₀ n ops ais m env₀ σ₀ vs dfs F₀ L a w F σ B)
  {i : Nat} (hi : i < m) (hr : i ∈ Region.ready .any ops L) :
  wpOpIn (ring ro) 0 P ops Q i (fun a' w' => ∃ F' σ' B', HInv P w₀ n ops ais m env₀ σ₀ vs dfs F₀ (L.setIfInBounds i true) a' w' F' σ' B') a w := by
 obtain ⟨hn, o, ho, hp⟩ := (ready_iff h.lsz).1 hr
 obtain ⟨ai, hai, hca⟩ := hc.op ho
 obtain ⟨hdst, hdst2, hcop, hg⟩ := compAI_spec hca
 have ho' : ops[i]? = some o := by simpa using ho
 unfold wpOpIn
 simp only [ho']
 have hchk := headChk_at hc.chk i o ai (by rw [take_at hi]; exact ho) (by rw [take_at hi]; exact hai)
 have hopd : OpdR P F (envAt (ais.take m) vs env₀ i) a.eval o.op.operands.toList := OpdR_of_slots fun t ht => h.seen hc hi ho hn hp (by
  simp only [readsOf, List.mem_append, List.mem_filterMap]
  exact .inl ⟨_, ht, rfl⟩)
 have hguard : ∀ {j : Nat} {want : Bool} {d : Nat}, o.guard = some (j, want) → (ops[j]?).bind (·.dst) = some d → SlotR F a.tmps d ((envAt (ais.take m) vs env₀ i).get d) := fun {j want d} h1 h2 => h.seen hc hi ho hn hp (by
  simp only [readsOf, List.mem_append, h1]
  refine .inr ?_
  have : (ops.toList[j]?).bind (·.dst) = some d := by simpa using h2
  rw [this]; simp)
 rcases hc.chain.at i ai (by rw [take_at hi]; exact hai) with ⟨zs, hz, hV⟩ | ⟨V, hz, hV, hs⟩
 ·-- a new variable
  have hgn := (hchk.2.2 (by rw [hz]; rfl)).1
  have hw : Region.wanted o (yielded ops a.tmps) = true := by
   rcases hg with ⟨g1, _⟩ | ⟨j, want, d, _, _, g3⟩
   ·simp [Region.wanted, g1]
   ·rw [g3] at hgn; cases hgn
  rw [if_pos hw]
  have hop : ai.op = .new zs := by
   cases hx : ai.op <;> rw [hx] at hz <;> simp [AOp.isNew] at hz
   rw [hz]
  refine oper_wpIn hcop (opS hcop _ σ (fun v σ' => ∃ b, v = .ptr b 0 ∧ σ b = none ∧ σ' = σ.put b (.cells zs)) F a w hopd h.inv (by rw [hop]; simp only [wpA]; exact fun b hb => ⟨b, rfl, hb, rfl⟩)) ?_
  rintro cv w' ⟨F', v, σ', hF, hrel, hI, b, rfl, hb, rfl⟩
  refine ⟨F', _, _, h.put hc hi ho hai hca hn hp hF (AH.le_put _ hb) hI (fun V hV' => by rw [hV] at hV'; cases hV') (b := b) fun zs' hz' => ?_⟩
  rw [hz] at hz'; cases hz'
  exact ⟨hrel.ptr_inv, AH.put_same _ _ _, hb⟩
 ·have noNew : ∀ zs, ai.op.isNew = some zs → False := fun zs h1 => by rw [hz] at h1; cases h1
  rcases hs with ⟨hgd, hst⟩ | ⟨d, want, hgd, hb, rfl⟩
  ·have hw : Region.wanted o (yielded ops a.tmps) = true := by
    rcases hg with ⟨g1, _⟩ | ⟨j, want, d, g1, g2, g3⟩
    ·simp [Region.wanted, g1]
    ·rcases hgd with hgd | ⟨d', want', hgd, hb⟩
     ·rw [g3] at hgd; cases hgd
     ·rw [g3] at hgd; cases hgd
      rw [wanted_slot (hguard g1 g2) g1 g2 hb]; simp
   rw [if_pos hw]
   refine oper_wpIn hcop (opS hcop _ σ _ F a w hopd h.inv (hst σ h.hp)) ?_
   rintro cv w' ⟨F', v, σ', hF, hrel, hI, hsim, hle⟩
   exact ⟨F', _, _, h.put hc hi ho hai hca hn hp hF hle hI (fun V' hV' => by rw [hV] at hV'; cases hV'; exact hsim.rel hrel) (b := 0) fun zs hz' => (noNew zs hz').elim⟩
  ·rcases hg with ⟨_, g1⟩ | ⟨j, want', d', g1, g2, g3⟩
   ·rw [g1] at hgd; cases hgd
   ·rw [g3] at hgd; cases hgd
    have hw := wanted_skip (hguard g1 g2) g1 g2 hb
    rw [hw, if_neg (by simp)]
    refine ⟨fun _ _ => trivial, F, _, _, h.put hc hi ho hai hca hn hp F.le_refl σ.le_refl h.inv (fun V' hV' => by rw [hV] at hV'; cases hV'; exact .tup .nil) (b := 0) fun zs hz' => (noNew zs hz').elim⟩
end
end Go.AL
namespace Go.AL
open Go.RowKit
set_option linter.unusedVariables false
set_option linter.unusedSectionVars false
set_option linter.unusedSimpArgs false
theorem countP_one {p p' : Nat → Bool} {i : Nat} (hp : ∀ j, p' j = if j = i then false else p j) (hi : p i = true) : ∀ {l : List Nat}, l.Nodup → i ∈ l → l.countP p' + 1 = l.countP p
 | [], _, h => by cases h
 | x :: l, hn, h => by
   obtain ⟨hx, hn'⟩ := List.nodup_cons.1 hn
   rw [List.countP_cons, List.countP_cons]
   by_cases hxi : x = i
   ·subst hxi
    have : l.countP p' = l.countP p := List.countP_congr fun j hj => by
     have : j ≠ x := fun e => hx (e ▸ hj)
     rw [hp, if_neg this]
    rw [this, hp, if_pos rfl, hi]; simp
   ·have := countP_one hp hi hn' ((List.mem_cons.1 h).resolve_left (Ne.symm hxi))
    rw [hp x, if_neg hxi]; omega
def cnt (N : Nat) (L : Array Bool) : Nat := (List.range N).countP fun i => !L.getD i false
section
variable {P : Program} {w₀ : World} {n : Nat} {ops : Array Oper} {ais : List AI} {ms : List Nat} {m : Nat} {env₀ envm : Env} {σ₀ : AH} {vs : List (Option AV)} {dfs : List Deferred} {F₀ : Gh}
theorem cnt_set {L : Array Bool} {i : Nat} (hs : L.size = ops.size) (hi : i < ops.size) (hn : L.getD i false = false) : cnt ops.size (L.setIfInBounds i true) + 1 = cnt ops.size L := by
 refine countP_one (i := i) (fun j => ?_) (by simp [hn]) List.nodup_range (List.mem_range.2 hi)
 simp only [getD_set (show i < L.size by omega)]
 split <;> simp
theorem progress {late : List Bool} (hd : DrawOk ops.toList ms late m) {L : Array Bool} (hs : L.size = ops.size) (hr : Region.ready .any ops L = []) : ∀ i, i < ops.size → L.getD i false = true := by
 intro i
 induction i using Nat.strongRecOn with
 | _ i ih =>
   intro hi
   cases hL : L.getD i false with
   | true => rfl
   | false =>
     obtain ⟨o, ho⟩ : ∃ o, ops.toList[i]? = some o := ⟨_, List.getElem?_eq_getElem (by simpa using hi)⟩
     have : i ∈ Region.ready .any ops L := (ready_iff hs).2 ⟨hL, o, ho, fun p hp => by
      have hlt := (hd.mask i o ho).2 p hp
      exact ih p hlt (by omega)⟩
     rw [hr] at this; cases this
theorem cnt_zero {L : Array Bool} (h : cnt ops.size L = 0) : ∀ i, i < ops.size → L.getD i false = true := by
 intro i hi
 have := List.countP_eq_zero.1 h i (List.mem_range.2 hi)
 simpa using this
theorem ready_nil {L : Array Bool} (hs : L.size = ops.size) (h : ∀ i, i < ops.size → L.getD i false = true) : Region.ready .any ops L = [] := by
 apply List.eq_nil_iff_forall_not_mem.2
 intro i hi
 obtain ⟨h1, o, ho, _⟩ := (ready_iff hs).1 hi
 have hlt : i < ops.size := by
  have : i < ops.toList.length := by
   rcases Nat.lt_or_ge i ops.toList.length with h2 | h2
   ·exact h2
   ·rw [List.getElem?_eq_none h2] at ho; cases ho
  simpa using this
 rw [h i hlt] at h1; cases h1
structure TInv (P : Program) (w₀ : World) (n : Nat) (ops : Array Oper) (ais : List AI) (m : Nat) (env₀ : Env) (vs : List (Option AV)) (dfs : List Deferred) (F₀ : Gh) (k : Nat) (L : Array Bool) (a : Act) (w : World) (F : Gh) (σ : AH) (env : Env) : Prop where
 gh : F₀.le F
 inv : Inv w₀ F σ w
 dfs : a.defers = dfs
 sz : a.tmps.size = n
 lsz : L.size = ops.size
 dc : DC ops.toList L
 prog : ∀ i, m ≤ i → i < ops.size → L.getD i false = decide (i < k)
 late : ∀ j, j < m → L.getD j false = false → (lateOf ais).getD j false = true
 val : ∀ (i : Nat) (ai : AI) (V : AV) (d : Nat), ais[i]? = some ai → i < m → L.getD i false = true → vs[i]? = some (some V) → ai.dst = some d → SlotR F a.tmps d V
 old : ∀ (t : Nat), (∀ (i : Nat) (ai : AI), ais[i]? = some ai → L.getD i false = true → ai.dst ≠ some t) → SlotR F a.tmps t (env₀.get t)
 slot : ∀ (t : Nat), (∀ (j : Nat) (aj : AI), ais[j]? = some aj → j < m → L.getD j false = false → aj.dst ≠ some t) → SlotR F a.tmps t (env.get t)
 pend : ∀ (j : Nat) (aj : AI) (V : AV) (d : Nat), ais[j]? = some aj → j < m → L.getD j false = false → vs[j]? = some (some V) → aj.dst = some d → env.get d = V
theorem late_at {k : Nat} {ai : AI} (hk : ais[k]? = some ai) : (lateOf ais).getD k false = ai.op.late := by
 simp [lateOf, List.getD_eq_getElem?_getD, hk]
theorem late_notNew {op : AOp} (h : op.late = true) : op.isNew = none := by cases op <;> first | rfl | cases h
theorem TInv.listed {k : Nat} {L : Array Bool} {a : Act} {w : World} {F : Gh} {σ : AH} {env : Env} (h : TInv P w₀ n ops ais m env₀ vs dfs F₀ k L a w F σ env) : ∀ i, L.getD i false = true → i < ops.toList.length := fun j hj => by
 rcases Nat.lt_or_ge j L.size with h1 | h1
 ·rw [h.lsz] at h1; simpa using h1
 ·simp [Array.getD_eq_getD_getElem?, Array.getElem?_eq_none h1] at hj
theorem TInv.done {K : Env → AH → Prop} {k : Nat} {L : Array Bool} {a : Act} {w : World} {F : Gh} {σ : AH} {env : Env} (h : TInv P w₀ n ops ais m env₀ vs dfs F₀ k L a w F σ env) (hmk : m ≤ k) (hk : k ≤ ops.size)
  (hlen : ais.length = ops.size) (hall : ∀ i, i < ops.size → L.getD i false = true) (hm : m ≤ ops.size) (hw : wpOps P w₀ (ais.drop k) env σ K) : Left w₀ F₀ n dfs K a w := by
 have hkn : k = ops.size := by
  rcases Nat.lt_or_ge k ops.size with h1 | h1
  ·have := h.prog k hmk h1; rw [hall k h1] at this; simp at this
  ·omega
 rw [List.drop_eq_nil_of_le (by omega)] at hw
 refine ⟨F, env, σ, h.gh, ⟨h.sz, fun t ht => h.slot t (fun j aj _ hjm hL => ?_) ht⟩, h.dfs, h.inv, hw⟩
 rw [hall j (by omega)] at hL; cases hL
theorem TInv.seen (hc : DCtx P w₀ n ops ais ms m env₀ σ₀ vs envm) {k : Nat} {L : Array Bool} {a : Act} {w : World} {F : Gh} {σ : AH} {env : Env} (h : TInv P w₀ n ops ais m env₀ vs dfs F₀ k L a w F σ env)
  {i : Nat} (hi : i < m) {o : Oper} (ho : ops.toList[i]? = some o) (hn : L.getD i false = false) (hp : ∀ p ∈ predsOf o, L.getD p false = true) {t : Nat} (ht : t ∈ readsOf ops.toList o) : SlotR F a.tmps t ((envAt (ais.take m) vs env₀ i).get t) := by
 have hlen := h.listed
 by_cases hex : ∃ (j : Nat) (aj : AI) (V : AV), j < i ∧ ais[j]? = some aj ∧ vs[j]? = some (some V) ∧ aj.dst = some t
 ·obtain ⟨j, aj, V, hji, haj, hV, hd⟩ := hex
  rw [envAt_same (j := j) (ai := aj) (V := V) hji (by rw [take_at (by omega)]; exact haj) hV hd (fun j' a' hne h3 hd' => by
   have hj'm : j' < m := by
    rcases Nat.lt_or_ge j' m with h1 | h1
    ·exact h1
    ·rw [List.getElem?_eq_none (by rw [List.length_take]; omega)] at h3; cases h3
   rw [take_at hj'm] at h3
   exact hne (hc.one h3 haj hd' hd))]
  obtain ⟨oj, hoj, hcj⟩ := hc.oper haj
  have := hc.dok.reads i o hi ho t ht j oj hoj (by rw [← (compAI_spec hcj).2.1]; exact hd)
  rcases this with ⟨_, hbit, _⟩ | ⟨hlt, _⟩
  ·exact h.val j aj V t haj (by omega) (clo_listed hc.dok h.dc hlen i o ho hp j hbit) hV hd
  ·omega
 ·rw [envAt_other (fun j aj V hj h1 h2 hd => by
   rw [take_at (by omega)] at h1
   exact hex ⟨j, aj, V, hj, h1, h2, hd⟩)]
  refine h.old t fun j aj haj hjl hd => ?_
  obtain ⟨oj, hoj, hcj⟩ := hc.oper haj
  have := hc.dok.reads i o hi ho t ht j oj hoj (by rw [← (compAI_spec hcj).2.1]; exact hd)
  rcases this with ⟨hji, hbit, hnew⟩ | ⟨hlt, hbit⟩
  ·have hjm : j < m := by omega
   rcases hc.chain.at j aj (by rw [take_at hjm]; exact haj) with ⟨zs, hz, _⟩ | ⟨V, _, hV, _⟩
   ·have hk := (headChk_at hc.chk j oj aj (by rw [take_at hjm]; exact hoj) (by rw [take_at hjm]; exact haj)).2.1
    rw [hnew, hz] at hk; cases hk
   ·exact hex ⟨j, aj, V, hji, haj, hV, hd⟩
  ·have := clo_listed hc.dok h.dc hlen j oj hoj (h.dc j oj hoj hjl) i hbit
   rw [hn] at this; cases this
theorem dc_set {L : Array Bool} {i : Nat} {o : Oper} (hiL : i < L.size) (hdc : DC ops.toList L) (ho : ops.toList[i]? = some o) (hp : ∀ p ∈ predsOf o, L.getD p false = true) : DC ops.toList (L.setIfInBounds i true) := by
 intro j oj hoj hj p hpp
 rw [getD_set hiL] at hj ⊢
 split
 ·rfl
 ·split at hj
  ·rename_i h1 h2; subst h2; rw [ho] at hoj; cases hoj; exact hp p hpp
  ·exact hdc j oj hoj hj p hpp
theorem TInv.putLate (hc : DCtx P w₀ n ops ais ms m env₀ σ₀ vs envm) {k : Nat} {L : Array Bool} {a : Act} {w w' : World} {F F' : Gh} {σ : AH} {env : Env} (h : TInv P w₀ n ops ais m env₀ vs dfs F₀ k L a w F σ env)
  {i : Nat} (hi : i < m) (hiL : i < L.size) {o : Oper} {ai : AI} (ho : ops.toList[i]? = some o) (hai : ais[i]? = some ai) (hca : compAI P n ops o = some ai) (hn : L.getD i false = false) (hp : ∀ p ∈ predsOf o, L.getD p false = true)
  (hF : F.le F') (hI : Inv w₀ F' σ w') {V : AV} {cv : Value} (hV : vs[i]? = some (some V)) (hval : Rel F' V cv) :
  TInv P w₀ n ops ais m env₀ vs dfs F₀ k (L.setIfInBounds i true) (a.put o.dst cv) w' F' σ env := by
 obtain ⟨hdst, hdst2, hcop, hg⟩ := compAI_spec hca
 have hg' : ∀ j, (L.setIfInBounds i true).getD j false = if j = i then true else L.getD j false := fun j => getD_set hiL
 have hother : ∀ {j : Nat} {aj : AI} {d : Nat}, ais[j]? = some aj → j ≠ i → aj.dst = some d → o.dst ≠ some d := fun {j aj d} haj hne hd e => hne (hc.one haj hai hd (by rw [hdst2]; exact e))
 refine ⟨Gh.le_trans h.gh hF, hI, by rw [put_defers]; exact h.dfs, by rw [size_put]; exact h.sz, by simpa using h.lsz, dc_set hiL h.dc ho hp, ?_, ?_, ?_, ?_, ?_, ?_⟩
 ·intro j hj hjs
  rw [hg', if_neg (by omega)]; exact h.prog j hj hjs
 ·intro j hj hL
  rw [hg'] at hL
  split at hL
  ·cases hL
  ·exact h.late j hj hL
 ·intro j aj V' d haj hjm hjl hV' hd
  by_cases hji : j = i
  ·subst hji
   rw [hai] at haj; cases haj
   rw [hV] at hV'; cases hV'
   intro _
   have hd' : o.dst = some d := by rw [← hdst2]; exact hd
   rw [hd']
   have hdn : d < n := by rw [hd'] at hdst; simpa using hdst
   exact ⟨cv, slot_put_same (by rw [h.sz]; exact hdn), hval⟩
  ·rw [hg', if_neg hji] at hjl
   exact ((h.val j aj V' d haj hjm hjl hV' hd).mono hF).put (hother haj hji hd)
 ·intro t ht
  have hot : o.dst ≠ some t := by
   rw [← hdst2]
   exact ht i ai hai (by rw [hg', if_pos rfl])
  refine ((h.old t fun j aj haj hjl => ?_).mono hF).put hot
  refine ht j aj haj ?_
  rw [hg']; split <;> simp [hjl]
 ·intro t ht
  by_cases hot : o.dst = some t
  ·have hpv := h.pend i ai V t hai hi hn hV (by rw [hdst2]; exact hot)
   rw [hpv, hot]
   intro _
   have hdn : t < n := by rw [hot] at hdst; simpa using hdst
   exact ⟨cv, slot_put_same (by rw [h.sz]; exact hdn), hval⟩
  ·refine ((h.slot t fun j aj haj hjm hL => ?_).mono hF).put hot
   by_cases hji : j = i
   ·subst hji
    rw [hai] at haj; cases haj
    rw [hdst2]; exact hot
   ·exact ht j aj haj hjm (by rw [hg', if_neg hji]; exact hL)
 ·intro j aj V' d haj hjm hL hV' hd
  rw [hg'] at hL
  split at hL
  ·cases hL
  ·exact h.pend j aj V' d haj hjm hL hV' hd
theorem TInv.putTail (hc : DCtx P w₀ n ops ais ms m env₀ σ₀ vs envm) {k : Nat} {L : Array Bool} {a : Act} {w w' : World} {F F' : Gh} {σ σ' : AH} {env : Env} (h : TInv P w₀ n ops ais m env₀ vs dfs F₀ k L a w F σ env)
  (hmk : m ≤ k) (hiL : k < L.size) {o : Oper} {ai : AI} (ho : ops.toList[k]? = some o) (hai : ais[k]? = some ai) (hca : compAI P n ops o = some ai) (hp : ∀ p ∈ predsOf o, L.getD p false = true)
  (hF : F.le F') (hI : Inv w₀ F' σ' w') {v : AV} {cv : Value} (hval : Rel F' v cv) :
  TInv P w₀ n ops ais m env₀ vs dfs F₀ (k + 1) (L.setIfInBounds k true) (a.put o.dst cv) w' F' σ' (env.set ai.dst v) := by
 obtain ⟨hdst, hdst2, hcop, hg⟩ := compAI_spec hca
 have hg' : ∀ j, (L.setIfInBounds k true).getD j false = if j = k then true else L.getD j false := fun j => getD_set hiL
 have hother : ∀ {j : Nat} {aj : AI} {d : Nat}, ais[j]? = some aj → j ≠ k → aj.dst = some d → o.dst ≠ some d := fun {j aj d} haj hne hd e => hne (hc.one haj hai hd (by rw [hdst2]; exact e))
 refine ⟨Gh.le_trans h.gh hF, hI, by rw [put_defers]; exact h.dfs, by rw [size_put]; exact h.sz, by simpa using h.lsz, dc_set hiL h.dc ho hp, ?_, ?_, ?_, ?_, ?_, ?_⟩
 ·intro j hj hjs
  rw [hg']
  split
  ·rename_i e; subst e; simp
  ·rw [h.prog j hj hjs]; simp; omega
 ·intro j hj hL
  rw [hg', if_neg (by omega)] at hL
  exact h.late j hj hL
 ·intro j aj V' d haj hjm hjl hV' hd
  rw [hg', if_neg (by omega)] at hjl
  exact ((h.val j aj V' d haj hjm hjl hV' hd).mono hF).put (hother haj (by omega) hd)
 ·intro t ht
  have hot : o.dst ≠ some t := by
   rw [← hdst2]
   exact ht k ai hai (by rw [hg', if_pos rfl])
  refine ((h.old t fun j aj haj hjl => ?_).mono hF).put hot
  refine ht j aj haj ?_
  rw [hg']; split <;> simp [hjl]
 ·intro t ht
  by_cases hot : o.dst = some t
  ·rw [hdst2, hot, show (env.set (some t) v).get t = v from Env.get_put_same _ _ _]
   intro _
   have hdn : t < n := by rw [hot] at hdst; simpa using hdst
   exact ⟨cv, slot_put_same (by rw [h.sz]; exact hdn), hval⟩
  ·rw [Env.get_set_ne _ _ (by rw [hdst2]; exact hot)]
   refine ((h.slot t fun j aj haj hjm hL => ?_).mono hF).put hot
   exact ht j aj haj hjm (by rw [hg', if_neg (by omega)]; exact hL)
 ·intro j aj V' d haj hjm hL hV' hd
  rw [hg', if_neg (by omega)] at hL
  rw [Env.get_set_ne _ _ (by rw [hdst2]; exact hother haj (by omega) hd)]
  exact h.pend j aj V' d haj hjm hL hV' hd
theorem tail_sound {ro : Option Nat} {Q : Exit → Act → World → Prop} {K : Env → AH → Prop} (hc : DCtx P w₀ n ops ais ms m env₀ σ₀ vs envm) (hm : m ≤ ops.size) (hq : ∀ a w, Left w₀ F₀ n dfs K a w → Q .normal a w) :
  ∀ (fuel k : Nat) (L : Array Bool) (a : Act) (w : World) (F : Gh) (σ : AH) (env : Env), m ≤ k → k ≤ ops.size → cnt ops.size L ≤ fuel → TInv P w₀ n ops ais m env₀ vs dfs F₀ k L a w F σ env →
    wpOps P w₀ (ais.drop k) env σ K → wpAnyIn (ring ro) 0 P .any ops Q fuel L a w := by
 have hlen : ais.length = ops.size := by rw [(compOps_at hc.comp).1]; simp
 intro fuel
 induction fuel with
 | zero =>
   intro k L a w F σ env hmk hk hf h hw
   have hall := cnt_zero (by omega : cnt ops.size L = 0)
   exact ⟨ready_nil h.lsz hall, hq _ _ (h.done hmk hk hlen hall hm hw)⟩
 | succ fuel ih =>
   intro k L a w F σ env hmk hk hf h hw
   refine ⟨fun hnil => hq _ _ (h.done hmk hk hlen (progress hc.dok h.lsz hnil) hm hw), fun i hi => ?_⟩
   obtain ⟨hn, o, ho, hp⟩ := (ready_iff h.lsz).1 hi
   have hilt : i < ops.size := by
    have : i < ops.toList.length := by
     rcases Nat.lt_or_ge i ops.toList.length with h2 | h2
     ·exact h2
     ·rw [List.getElem?_eq_none h2] at ho; cases ho
    simpa using this
   have hiL : i < L.size := by rw [h.lsz]; exact hilt
   have hcnt : cnt ops.size (L.setIfInBounds i true) ≤ fuel := by have := cnt_set h.lsz hilt hn; omega
   obtain ⟨ai, hai, hca⟩ := hc.op ho
   obtain ⟨hdst, hdst2, hcop, hg⟩ := compAI_spec hca
   have ho' : ops[i]? = some o := by simpa using ho
   unfold wpOpIn
   simp only [ho']
   rcases Nat.lt_or_ge i m with him | him
   ·-- a late one
    have hlate : ai.op.late = true := by rw [← late_at hai]; exact h.late i him hn
    have hopd : OpdR P F (envAt (ais.take m) vs env₀ i) a.eval o.op.operands.toList := OpdR_of_slots fun t ht => h.seen hc him ho hn hp (by
     simp only [readsOf, List.mem_append, List.mem_filterMap]
     exact .inl ⟨_, ht, rfl⟩)
    have hguard : ∀ {j : Nat} {want : Bool} {d : Nat}, o.guard = some (j, want) → (ops[j]?).bind (·.dst) = some d → SlotR F a.tmps d ((envAt (ais.take m) vs env₀ i).get d) := fun {j want d} h1 h2 => h.seen hc him ho hn hp (by
     simp only [readsOf, List.mem_append, h1]
     refine .inr ?_
     have : (ops.toList[j]?).bind (·.dst) = some d := by simpa using h2
     rw [this]; simp)
    rcases hc.chain.at i ai (by rw [take_at him]; exact hai) with ⟨zs, hz, _⟩ | ⟨V, hz, hV, hs⟩
    ·rw [late_notNew hlate] at hz; cases hz
    ·rcases hs with ⟨hgd, hst⟩ | ⟨d, want, hgd, hb, rfl⟩
     ·have hwt : Region.wanted o (yielded ops a.tmps) = true := by
       rcases hg with ⟨g1, _⟩ | ⟨j, want, d, g1, g2, g3⟩
       ·simp [Region.wanted, g1]
       ·rcases hgd with hgd | ⟨d', want', hgd, hb⟩
        ·rw [g3] at hgd; cases hgd
        ·rw [g3] at hgd; cases hgd
         rw [wanted_slot (hguard g1 g2) g1 g2 hb]; simp
      rw [if_pos hwt]
      have hx : wpA P w₀ (envAt (ais.take m) vs env₀ i) σ ai.op fun v σ' => Sim v V ∧ σ' = σ := late_mono hlate (fun v hv => ⟨hv.1, rfl⟩) (hst σ₀ σ₀.le_refl)
      refine oper_wpIn hcop (opS hcop _ σ _ F a w hopd h.inv hx) ?_
      rintro cv w' ⟨F', v, σ', hF, hrel, hI, hsim, rfl⟩
      exact ih k _ _ w' F' _ env hmk hk hcnt (h.putLate hc him hiL ho hai hca hn hp hF hI hV (hsim.rel hrel)) hw
     ·rcases hg with ⟨_, g1⟩ | ⟨j, want', d', g1, g2, g3⟩
      ·rw [g1] at hgd; cases hgd
      ·rw [g3] at hgd; cases hgd
       have hwt := wanted_skip (hguard g1 g2) g1 g2 hb
       rw [hwt, if_neg (by simp)]
       exact ⟨fun _ _ => trivial, ih k _ _ w F _ env hmk hk hcnt (h.putLate hc him hiL ho hai hca hn hp F.le_refl h.inv hV (.tup .nil)) hw⟩
   ·-- the next one
    have hik : i = k := by
     have hge : ¬ i < k := by have := h.prog i him hilt; rw [hn] at this; simpa using this.symm
     rcases Nat.lt_or_ge k i with h2 | h2
     ·rcases hc.dok.tail i o him ho k h2 with hb | ⟨hb, _⟩
      ·have := clo_listed hc.dok h.dc h.listed i o ho hp k hb
       rw [h.prog k hmk (by omega)] at this; simp at this
      ·omega
     ·omega
    subst hik
    have hread : ∀ t ∈ readsOf ops.toList o, SlotR F a.tmps t (env.get t) := fun t ht => h.slot t fun j aj haj hjm hL hd => by
     obtain ⟨oj, hoj, hcj⟩ := hc.oper haj
     have hb := hc.dok.treads i o him ho t ht j oj hjm hoj (by rw [← (compAI_spec hcj).2.1]; exact hd)
     have := clo_listed hc.dok h.dc h.listed i o ho hp j hb
     rw [hL] at this; cases this
    have hopd : OpdR P F env a.eval o.op.operands.toList := OpdR_of_slots fun t ht => hread t (by
     simp only [readsOf, List.mem_append, List.mem_filterMap]
     exact .inl ⟨_, ht, rfl⟩)
    rw [List.drop_eq_getElem_cons (by omega : i < ais.length)] at hw
    have hai' : ais[i] = ai := by rw [List.getElem?_eq_getElem (by omega)] at hai; exact Option.some.inj hai
    rw [hai'] at hw
    have run : (wpA P w₀ env σ ai.op fun v σ' => wpOps P w₀ (ais.drop (i + 1)) (env.set ai.dst v) σ' K) → o.wpIn (ring ro) 0 P a w (wpAnyIn (ring ro) 0 P .any ops Q fuel (L.setIfInBounds i true)) Q := fun h1 =>
     oper_wpIn hcop (opS hcop _ _ _ _ a w hopd h.inv h1) fun v w' ⟨F', v', σ', hF, hr, hI', h2⟩ =>
      ih (i + 1) _ _ w' F' σ' _ (by omega) (by omega) hcnt (h.putTail hc him hiL ho hai hca hp hF hI' hr) h2
    simp only [wpOps] at hw
    rcases hg with ⟨g1, g2⟩ | ⟨j, want, d, g1, g2, g3⟩
    ·rw [g2] at hw
     have hwt : Region.wanted o (yielded ops a.tmps) = true := by simp [Region.wanted, g1]
     rw [if_pos hwt]
     exact run hw
    ·rw [g3] at hw
     simp only at hw
     have hsd : SlotR F a.tmps d (env.get d) := hread d (by
      simp only [readsOf, List.mem_append, g1]
      refine .inr ?_
      have : (ops.toList[j]?).bind (·.dst) = some d := by simpa using g2
      rw [this]; simp)
     split at hw
     ·rename_i b hb
      have hwt := wanted_slot hsd g1 g2 hb
      split at hw
      ·rename_i hbw
       subst hbw
       rw [hwt, if_pos (by simp)]
       exact run hw
      ·rename_i hbw
       rw [hwt, if_neg (by simpa using hbw)]
       exact ⟨fun _ _ => trivial, ih (i + 1) _ _ w F σ _ (by omega) (by omega) hcnt (h.putTail hc him hiL ho hai hca hp F.le_refl h.inv (.tup .nil)) hw⟩
     ·rename_i xs hb
      rw [wanted_skip hsd g1 g2 (.inr ⟨xs, hb⟩), if_neg (by simp)]
      exact ⟨fun _ _ => trivial, ih (i + 1) _ _ w F σ _ (by omega) (by omega) hcnt (h.putTail hc him hiL ho hai hca hp F.le_refl h.inv (.tup .nil)) hw⟩
     ·exact hw.elim
theorem news_apply {σ : AH} {B : Nat → Nat} {K : Env → Prop} : ∀ (hs : List AI) (off : Nat) (prev : List Nat) (env : Env),
  (∀ (k : Nat) (ai : AI) (zs : List AV) (d : Nat), hs[k]? = some ai → ai.op.isNew = some zs → ai.dst = some d → σ (B (off + k)) = some (.cells zs) ∧ σ₀ (B (off + k)) = none ∧ B (off + k) ∉ prev) →
  (∀ (j k : Nat) (aj ak : AI), hs[j]? = some aj → hs[k]? = some ak → aj.op.isNew.isSome = true → ak.op.isNew.isSome = true → j ≠ k → B (off + j) ≠ B (off + k)) →
  (∀ (j k : Nat) (aj ak : AI) (d : Nat), hs[j]? = some aj → hs[k]? = some ak → aj.dst = some d → ak.dst = some d → j = k) →
  wpNews σ₀ σ (newsOf hs) prev env K →
  ∃ env', K env' ∧ (∀ (k : Nat) (ai : AI) (zs : List AV) (d : Nat), hs[k]? = some ai → ai.op.isNew = some zs → ai.dst = some d → env'.get d = .ptr (B (off + k)) 0) ∧
    (∀ t, (∀ (k : Nat) (ai : AI), hs[k]? = some ai → ai.op.isNew.isSome = true → ai.dst ≠ some t) → env'.get t = env.get t)
 | [], off, prev, env, h1, h2, h3, h => ⟨env, h, fun k ai zs d hk => by simp at hk, fun t _ => rfl⟩
 | a :: hs, off, prev, env, h1, h2, h3, h => by
   have rest1 : ∀ prev' : List Nat, (∀ x ∈ prev', x ∈ prev ∨ ∃ zs d, a.op.isNew = some zs ∧ a.dst = some d ∧ x = B off) → ∀ (k : Nat) (ai : AI) (zs : List AV) (d : Nat), hs[k]? = some ai → ai.op.isNew = some zs → ai.dst = some d →
     σ (B (off + 1 + k)) = some (.cells zs) ∧ σ₀ (B (off + 1 + k)) = none ∧ B (off + 1 + k) ∉ prev' := fun prev' hp k ai zs d hk hz hd => by
    have := h1 (k + 1) ai zs d (by simpa using hk) hz hd
    rw [show off + (k + 1) = off + 1 + k by omega] at this
    refine ⟨this.1, this.2.1, fun hx => ?_⟩
    rcases hp _ hx with hx | ⟨zs', d', hz', hd', e⟩
    ·exact this.2.2 hx
    ·have := h2 0 (k + 1) a ai rfl (by simpa using hk) (by rw [hz']; rfl) (by rw [hz]; rfl) (by omega)
     rw [show off + (k + 1) = off + 1 + k by omega] at this
     exact this (by simpa using e.symm)
   have rest2 : ∀ (j k : Nat) (aj ak : AI), hs[j]? = some aj → hs[k]? = some ak → aj.op.isNew.isSome = true → ak.op.isNew.isSome = true → j ≠ k → B (off + 1 + j) ≠ B (off + 1 + k) := fun j k aj ak hj hk hz hz' hne => by
    have := h2 (j + 1) (k + 1) aj ak (by simpa using hj) (by simpa using hk) hz hz' (by omega)
    rwa [show off + (j + 1) = off + 1 + j by omega, show off + (k + 1) = off + 1 + k by omega] at this
   have rest3 : ∀ (j k : Nat) (aj ak : AI) (d : Nat), hs[j]? = some aj → hs[k]? = some ak → aj.dst = some d → ak.dst = some d → j = k := fun j k aj ak d hj hk hd hd' => by
    have := h3 (j + 1) (k + 1) aj ak d (by simpa using hj) (by simpa using hk) hd hd'
    omega
   cases hz : a.op.isNew with
   | none =>
     have hno : newsOf (a :: hs) = newsOf hs := by simp [newsOf, hz]
     rw [hno] at h
     obtain ⟨env', k1, k2, k3⟩ := news_apply hs (off + 1) prev env (rest1 prev fun x hx => .inl hx) rest2 rest3 h
     refine ⟨env', k1, fun k ai zs d hk hz' hd => ?_, fun t ht => k3 t fun k ai hk => ht (k + 1) ai (by simpa using hk)⟩
     cases k with
     | zero => simp at hk; subst hk; rw [hz] at hz'; cases hz'
     | succ k => rw [show off + (k + 1) = off + 1 + k by omega]; exact k2 k ai zs d (by simpa using hk) hz' hd
   | some zs =>
     cases hd : a.dst with
     | none =>
       have hno : newsOf (a :: hs) = newsOf hs := by simp [newsOf, hz, hd]
       rw [hno] at h
       obtain ⟨env', k1, k2, k3⟩ := news_apply hs (off + 1) prev env (rest1 prev fun x hx => .inl hx) rest2 rest3 h
       refine ⟨env', k1, fun k ai zs' d hk hz' hd' => ?_, fun t ht => k3 t fun k ai hk => ht (k + 1) ai (by simpa using hk)⟩
       cases k with
       | zero => simp at hk; subst hk; rw [hd] at hd'; cases hd'
       | succ k => rw [show off + (k + 1) = off + 1 + k by omega]; exact k2 k ai zs' d (by simpa using hk) hz' hd'
     | some d =>
       have hno : newsOf (a :: hs) = (d, zs) :: newsOf hs := by simp [newsOf, hz, hd]
       rw [hno] at h
       have h0 := h1 0 a zs d rfl hz hd
       simp only [Nat.add_zero] at h0
       have h' := h (B off) h0.1 h0.2.1 h0.2.2
       obtain ⟨env', k1, k2, k3⟩ := news_apply hs (off + 1) (B off :: prev) (env.put d (.ptr (B off) 0)) (rest1 _ fun x hx => by
        rcases List.mem_cons.1 hx with rfl | hx
        ·exact .inr ⟨zs, d, hz, hd, rfl⟩
        ·exact .inl hx) rest2 rest3 h'
       have hdk : ∀ (k : Nat) (ai : AI), hs[k]? = some ai → ai.dst ≠ some d := fun k ai hk e => by
        have := h3 0 (k + 1) a ai d rfl (by simpa using hk) hd e
        omega
       refine ⟨env', k1, fun k ai zs' d' hk hz' hd' => ?_, fun t ht => ?_⟩
       ·cases k with
        | zero =>
          simp at hk; subst hk
          rw [hd] at hd'; cases hd'
          rw [k3 d fun k ai hk _ => hdk k ai hk, Env.get_put_same]; rfl
        | succ k => rw [show off + (k + 1) = off + 1 + k by omega]; exact k2 k ai zs' d' (by simpa using hk) hz' hd'
       ·rw [k3 t fun k ai hk => ht (k + 1) ai (by simpa using hk)]
        exact Env.get_put_ne _ _ (fun e => ht 0 a rfl (by rw [hz]; rfl) (by rw [hd, e]))
theorem draw_sound {ro : Option Nat} {Q : Exit → Act → World → Prop} {K : Env → AH → Prop} (hc : DCtx P w₀ n ops ais ms m env₀ σ₀ vs envm) (hm : m ≤ ops.size)
  (hK : ∀ σ, σ₀.le σ → wpNews σ₀ σ (newsOf (ais.take m)) [] envm fun env => wpOps P w₀ (ais.drop m) env σ K) (hq : ∀ a w, Left w₀ F₀ n dfs K a w → Q .normal a w) :
  ∀ (fuel : Nat) (L : Array Bool) (a : Act) (w : World) (F : Gh) (σ : AH) (B : Nat → Nat), HInv P w₀ n ops ais m env₀ σ₀ vs dfs F₀ L a w F σ B → cnt ops.size L ≤ fuel → wpAnyIn (ring ro) 0 P .any ops Q fuel L a w := by
 have hlen : ais.length = ops.size := by rw [(compOps_at hc.comp).1]; simp
 have hclen := hc.chain.end
 have hvl : vs.length = m := by rw [hclen.2, List.length_take]; omega
 -- the head is done, but for late ones
 have done : ∀ {L : Array Bool} {a : Act} {w : World} {F : Gh} {σ : AH} {B : Nat → Nat}, HInv P w₀ n ops ais m env₀ σ₀ vs dfs F₀ L a w F σ B → (∀ i, i < m → L.getD i false = true ∨ (lateOf ais).getD i false = true) →
   ∃ env, TInv P w₀ n ops ais m env₀ vs dfs F₀ m L a w F σ env ∧ wpOps P w₀ (ais.drop m) env σ K := by
  intro L a w F σ B h hall
  have take_lt : ∀ {k : Nat} {ak : AI}, (ais.take m)[k]? = some ak → k < m ∧ ais[k]? = some ak := fun {k ak} hk => by
   have : k < m := by
    rcases Nat.lt_or_ge k m with h1 | h1
    ·exact h1
    ·rw [List.getElem?_eq_none (by rw [List.length_take]; omega)] at hk; cases hk
   exact ⟨this, by rw [take_at this] at hk; exact hk⟩
  have newL : ∀ {k : Nat} {ak : AI}, ais[k]? = some ak → k < m → ak.op.isNew.isSome = true → L.getD k false = true := fun {k ak} hk hkm hz => by
   rcases hall k hkm with h1 | h1
   ·exact h1
   ·rw [late_at hk] at h1
    rw [late_notNew h1] at hz; cases hz
  obtain ⟨env, h1, h2, h3⟩ := news_apply (σ₀ := σ₀) (σ := σ) (B := B) (ais.take m) 0 [] envm (fun k ai zs d hk hz hd => by
    obtain ⟨hkm, hk'⟩ := take_lt hk
    have := h.new k ai zs d hk' hkm (newL hk' hkm (by rw [hz]; rfl)) hz hd
    rw [Nat.zero_add]; exact ⟨this.2.1, this.2.2, by simp⟩) (fun j k aj ak hj hk hz hz' hne => by
    obtain ⟨hjm, hj'⟩ := take_lt hj
    obtain ⟨hkm, hk'⟩ := take_lt hk
    rw [Nat.zero_add, Nat.zero_add]
    exact h.inj j k aj ak hj' hk' hjm hkm (newL hj' hjm hz) (newL hk' hkm hz') hz hz' hne) (fun j k aj ak d hj hk hd hd' => hc.one (take_lt hj).2 (take_lt hk).2 hd hd') (hK σ h.hp)
  have envV : ∀ (j : Nat) (aj : AI) (V : AV) (d : Nat), ais[j]? = some aj → j < m → vs[j]? = some (some V) → aj.dst = some d → env.get d = V := fun j aj V d haj hjm hV hd => by
   have haj' : (ais.take m)[j]? = some aj := by rw [take_at hjm]; exact haj
   rw [h3 d fun k ai hk hz hd' => by
    obtain ⟨hkm, hk'⟩ := take_lt hk
    have e := hc.one hk' haj hd' hd
    subst e
    rw [haj] at hk'; cases hk'
    rcases hc.chain.at k aj haj' with ⟨zs, _, hn⟩ | ⟨V', hn, _⟩
    ·rw [hV] at hn; cases hn
    ·rw [hn] at hz; cases hz]
   rw [← hclen.1]
   exact envAt_same (env := env₀) (j := j) (ai := aj) (V := V) (by rw [List.length_take]; omega) haj' hV hd (fun j' a' hne h3 hd' => hne (hc.one (take_lt h3).2 haj hd' hd))
  refine ⟨env, ⟨h.gh, h.inv, h.dfs, h.sz, h.lsz, h.dc, fun i hi his => ?_, fun j hj hL => ?_, h.val, fun t ht => h.old t fun i ai hi him hL => ht i ai hi hL, fun t ht => ?_, fun j aj V d haj hjm _ hV hd => envV j aj V d haj hjm hV hd⟩, h1⟩
  ·rw [h.notail i hi]; simp; omega
  ·rcases hall j hj with h1 | h1
   ·rw [hL] at h1; cases h1
   ·exact h1
  ·intro hta
   by_cases hnew : ∃ (k : Nat) (ai : AI), (ais.take m)[k]? = some ai ∧ ai.op.isNew.isSome = true ∧ ai.dst = some t
   ·obtain ⟨k, ai, hk, hz, hd⟩ := hnew
    obtain ⟨zs, hz'⟩ := Option.isSome_iff_exists.1 hz
    obtain ⟨hkm, hk'⟩ := take_lt hk
    have e := h2 k ai zs t hk hz' hd
    rw [Nat.zero_add] at e
    rw [e] at hta ⊢
    exact (h.new k ai zs t hk' hkm (newL hk' hkm hz) hz' hd).1 hta
   ·by_cases hex : ∃ (j : Nat) (aj : AI) (V : AV), ais[j]? = some aj ∧ j < m ∧ vs[j]? = some (some V) ∧ aj.dst = some t
    ·obtain ⟨j, aj, V, haj, hjm, hV, hd⟩ := hex
     have hL : L.getD j false = true := by
      cases hL : L.getD j false with
      | true => rfl
      | false => exact absurd hd (ht j aj haj hjm hL)
     have e2 := envV j aj V t haj hjm hV hd
     rw [e2] at hta ⊢
     exact h.val j aj V t haj hjm hL hV hd hta
    ·have e := h3 t fun k ai hk hz hd => hnew ⟨k, ai, hk, hz, hd⟩
     rw [e, ← hclen.1] at hta ⊢
     have e2 := envAt_other (ais := ais.take m) (vs := vs) (env := env₀) (k := (ais.take m).length) (t := t) (fun j aj V hj h1 h2 hd => hex ⟨j, aj, V, (take_lt h1).2, (take_lt h1).1, h2, hd⟩)
     rw [e2] at hta ⊢
     refine h.old t (fun j aj haj hjm hjl hd => ?_) hta
     rcases hc.chain.at j aj (by rw [take_at hjm]; exact haj) with ⟨zs, hz, _⟩ | ⟨V, _, hV, _⟩
     ·exact hnew ⟨j, aj, by rw [take_at hjm]; exact haj, by rw [hz]; rfl, hd⟩
     ·exact hex ⟨j, aj, V, haj, hjm, hV, hd⟩
 intro fuel
 induction fuel with
 | zero =>
   intro L a w F σ B h hcnt
   have hall := cnt_zero (by omega : cnt ops.size L = 0)
   obtain ⟨env, h1, h2⟩ := done h fun i hi => .inl (hall i (by omega))
   exact ⟨ready_nil h.lsz hall, hq _ _ (h1.done (Nat.le_refl _) hm hlen hall hm h2)⟩
 | succ fuel ih =>
   intro L a w F σ B h hcnt
   refine ⟨fun hnil => ?_, fun i hi => ?_⟩
   ·have hall := progress hc.dok h.lsz hnil
    obtain ⟨env, h1, h2⟩ := done h fun i hi => .inl (hall i (by omega))
    exact hq _ _ (h1.done (Nat.le_refl _) hm hlen hall hm h2)
   ·obtain ⟨hn, o, ho, hp⟩ := (ready_iff h.lsz).1 hi
    have hilt : i < ops.size := by
     have : i < ops.toList.length := by
      rcases Nat.lt_or_ge i ops.toList.length with h2 | h2
      ·exact h2
      ·rw [List.getElem?_eq_none h2] at ho; cases ho
     simpa using this
    rcases Nat.lt_or_ge i m with him | him
    ·refine wpOpIn_mono ?_ (head_step hc h him hi)
     rintro a' w' ⟨F', σ', B', h'⟩
     refine ih _ _ _ _ _ _ h' ?_
     have := cnt_set h.lsz hilt hn
     omega
    ·-- the tail begins
     have hlenL : ∀ j, L.getD j false = true → j < ops.toList.length := fun j hj => by
      rcases Nat.lt_or_ge j L.size with h1 | h1
      ·rw [h.lsz] at h1; simpa using h1
      ·simp [Array.getD_eq_getD_getElem?, Array.getElem?_eq_none h1] at hj
     obtain ⟨env, h1, h2⟩ := done h fun j hj => by
      rcases hc.dok.tail i o him ho j (by omega) with hb | ⟨_, hb⟩
      ·exact .inl (clo_listed hc.dok h.dc hlenL i o ho hp j hb)
      ·exact .inr hb
     exact (tail_sound hc hm hq (fuel + 1) m L a w F σ env (Nat.le_refl _) hm hcnt h1 h2).2 i hi
end
end Go.AL
