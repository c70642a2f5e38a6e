/-
 Maps whose keys are numbers.
-/
import Derived.Test.YtggcpoleklcmkaaGreatDoorX2
import Derived.MapKept
import Derived.Lib.Overlaps
import Derived.Laws.CopyRow
import Derived.Lib.AppendZeros
import Derived.RangeFuncRecord
import Derived.RangeFuncIn
import Derived.RangeFuncLeaves
import Derived.OrdersIn
import Derived.TacticsIn
import Derived.Maps.RangeRun
import Derived.Laws.Externs
import Derived.Deep.AppendSrc
set_option linter.unusedVariables false
set_option linter.unusedSimpArgs false
set_option maxRecDepth 100000
set_option maxHeartbeats 8000000
namespace Go.Sl
open Go.Ls Go.MapKept
def MapIs (a : Array MapEntry) (f : Int → Option Value) (n : Nat) : Prop :=
 a.size = n ∧ (∀ e ∈ a.toList, ∃ k, e.key = vi k) ∧ ∀ k v, f k = some v ↔ ∃ e ∈ a.toList, e.key = vi k ∧ e.val = v
def mp (b : Nat) (f : Int → Option Value) (n : Nat) : HP := fun m => ∃ a c, m b = some (.map a c) ∧ Stamped a c ∧ MapIs a f n
def put (f : Int → Option Value) (i : Int) (v : Value) : Int → Option Value := fun k => if k = i then some v else f k
def del (f : Int → Option Value) (i : Int) : Int → Option Value := fun k => if k = i then none else f k
theorem put_same (f : Int → Option Value) (i : Int) (v : Value) : put f i v i = some v := if_pos rfl
theorem put_ne (f : Int → Option Value) {i k : Int} (v : Value) (h : k ≠ i) : put f i v k = f k := if_neg h
theorem del_same (f : Int → Option Value) (i : Int) : del f i i = none := if_pos rfl
theorem del_ne (f : Int → Option Value) {i k : Int} (h : k ≠ i) : del f i k = f k := if_neg h
theorem Sat.mpOpen {E : Ev} {w : World} {I : Mem} {L : List HP} {b n : Nat} {f : Int → Option Value} (k : Nat) (hL : L[k]? = some (mp b f n)) (h : Sat E w I L) : ∃ a c, Stamped a c ∧ MapIs a f n ∧ Sat E w I (L.set k (pt b (.map a c))) := by
 have hp := h.perm (pull k L _ hL)
 obtain ⟨m, a, d, m1, m2, e1, e2, e3, ⟨x, c, hb, h1, h2⟩, e5⟩ := hp.own
 have : Sat E w I (pt b (.map x c) :: L.eraseIdx k) := ⟨hp.tape, hp.os, hp.output, hp.imm, m, a, d, m1, m2, e1, e2, e3, hb, e5⟩
 exact ⟨x, c, h1, h2, this.perm (push_back k L _ _ hL)⟩
theorem Sat.mpClose {E : Ev} {w : World} {I : Mem} {L : List HP} {b n c : Nat} {a : Array MapEntry} {f : Int → Option Value} (k : Nat) (hL : L[k]? = some (pt b (.map a c))) (h1 : Stamped a c) (h2 : MapIs a f n) (h : Sat E w I L) : Sat E w I (L.set k (mp b f n)) := by
 have hp := h.perm (pull k L _ hL)
 obtain ⟨m, x, d, m1, m2, e1, e2, e3, hb, e5⟩ := hp.own
 have : Sat E w I (mp b f n :: L.eraseIdx k) := ⟨hp.tape, hp.os, hp.output, hp.imm, m, x, d, m1, m2, e1, e2, e3, ⟨a, c, hb, h1, h2⟩, e5⟩
 exact this.perm (push_back k L _ _ hL)
def mapk (P : Program) (t : Nat) : Option Value :=
 match P.underlying t with
 | some (.map k e) => match P.underlying k with
  | some (.int .i64) => (P.info? e).bind fun i => i.zero
  | _ => none
 | _ => none
class MapK (P : Program) (t : Nat) (z : outParam Value) : Prop where
 is : mapk P t = some z
theorem MapK.und {P : Program} {t : Nat} {z : Value} (h : mapk P t = some z) : ∃ k e, P.underlying t = some (.map k e) ∧ P.underlying k = some (.int .i64) ∧ ∀ w, (zeroValue e).run P w = .ok z w := by
 unfold mapk at h
 split at h
 ·rename_i k e he
  split at h
  ·rename_i hk
   refine ⟨k, e, he, hk, fun w => ?_⟩
   cases hi : P.info? e with
   | none => rw [hi] at h; cases h
   | some i =>
    rw [hi] at h
    have hz : i.zero = some z := h
    unfold zeroValue
    rw [Sem.run_bind, run_typeInfo w hi]
    simp [hz, Result.andThen]
  ·cases h
 ·cases h
theorem nodup_inj {α : Type} {l : List α} (h : l.Nodup) {i j : Nat} (hi : i < l.length) (hj : j < l.length) (e : l[i] = l[j]) : i = j := by
 rcases Nat.lt_trichotomy i j with q | q | q
 ·exact absurd e (List.pairwise_iff_getElem.1 h i j hi hj q)
 ·exact q
 ·exact absurd e.symm (List.pairwise_iff_getElem.1 h j i hj hi q)
theorem MapIs.key {a : Array MapEntry} {f : Int → Option Value} {n : Nat} (h : MapIs a f n) : ∀ e ∈ a.toList, IsKey (.int .i64) e.key := fun e he => by
 obtain ⟨k, hk⟩ := h.2.1 e he
 rw [hk]
 exact rfl
theorem MapIs.find {a : Array MapEntry} {f : Int → Option Value} {n : Nat} (h : MapIs a f n) (i : Int) :
  (Instr.findNow (.int .i64) (vi i) a.toList 0 = some none ∧ f i = none ∧ ∀ x ∈ a.toList, x.key ≠ vi i) ∨ ∃ j e, Instr.findNow (.int .i64) (vi i) a.toList 0 = some (some (j, e.val)) ∧ a[j]? = some e ∧ e.key = vi i ∧ f i = some e.val := by
 rcases findNow_spec (d := .int .i64) (k := vi i) rfl a.toList 0 h.key with ⟨h1, h2⟩ | ⟨j, e, h1, h2, h3⟩
 ·refine .inl ⟨h1, ?_, h2⟩
  cases hf : f i with
  | none => rfl
  | some v =>
   obtain ⟨e, he, hk, _⟩ := (h.2.2 i v).1 hf
   exact absurd hk (h2 e he)
 ·refine .inr ⟨j, e, by simpa using h1, by simpa using h2, h3, (h.2.2 i _).2 ⟨e, List.mem_of_getElem? h2, h3, rfl⟩⟩
theorem run_look {P : Program} {t b c n : Nat} {z : Value} {a : Array MapEntry} {f : Int → Option Value} (hk : mapk P t = some z) {w : World} (hb : w.heap[b]? = some (.map a c)) (hM : MapIs a f n) (i : Int) (ok : Bool) :
  (Instr.lookup t (.map (some b)) (vi i) ok).run P w = .ok (if ok then .tuple #[(f i).getD z, .bool (f i).isSome] else (f i).getD z) w := by
 obtain ⟨k, e, hm, hd, hz⟩ := MapK.und hk
 rcases hM.find i with ⟨h1, h2, _⟩ | ⟨j, x, h1, _, _, h2⟩
 ·cases ok <;> simp [Instr.lookup, run_underlying hm, MapKept.run_getObj_map hb, run_checkKey (k := vi i) hd rfl, run_findKey hd h1, hz, Result.andThen, h2]
 ·cases ok <;> simp [Instr.lookup, run_underlying hm, MapKept.run_getObj_map hb, run_checkKey (k := vi i) hd rfl, run_findKey hd h1, Result.andThen, h2]
theorem MapIs.put {a : Array MapEntry} {c : Nat} {f : Int → Option Value} {n : Nat} (h : MapIs a f n) (hs : Stamped a c) (i : Int) (v : Value) {P : Program} {t b : Nat} {z : Value} (hk : mapk P t = some z) {w : World} (hb : w.heap[b]? = some (.map a c)) :
  ∃ a' c', (Instr.mapUpdate t (.map (some b)) (vi i) v).run P w = .ok () { w with heap := w.heap.setIfInBounds b (.map a' c') } ∧ Stamped a' c' ∧ MapIs a' (Sl.put f i v) (if (f i).isSome then n else n + 1) := by
 obtain ⟨k, e, hm, hd, hz⟩ := MapK.und hk
 rcases h.find i with ⟨h1, h2, h3⟩ | ⟨j, x, h1, hj, hx, h2⟩
 ·refine ⟨_, _, ?_, stamped_push hs (key := vi i) (val := v) h3, ?_⟩
  ·simp [Instr.mapUpdate, run_underlying hm, MapKept.run_getObj_map hb, run_checkKey (k := vi i) hd rfl, run_findKey hd h1, MapKept.run_setObj_map _ hb, Result.andThen]
  ·refine ⟨by simp [h2, h.1], ?_, ?_⟩
   ·intro x hx
    simp only [Array.toList_push, List.mem_append, List.mem_singleton] at hx
    rcases hx with hx | rfl
    ·exact h.2.1 x hx
    ·exact ⟨i, rfl⟩
   ·intro k' u
    simp only [Array.toList_push, List.mem_append, List.mem_singleton]
    by_cases hki : k' = i
    ·subst hki
     rw [put_same]
     constructor
     ·intro hu; injection hu with hu; subst hu
      exact ⟨_, .inr rfl, rfl, rfl⟩
     ·rintro ⟨x, hx | rfl, h4, h5⟩
      ·exact absurd h4 (h3 x hx)
      ·rw [← h5]
    ·rw [put_ne _ _ hki, h.2.2]
     constructor
     ·rintro ⟨x, hx, h4, h5⟩; exact ⟨x, .inl hx, h4, h5⟩
     ·rintro ⟨x, hx | rfl, h4, h5⟩
      ·exact ⟨x, hx, h4, h5⟩
      ·injection h4 with _ h4; exact absurd h4.symm hki
 ·have hkey : ∀ e', a[j]? = some e' → ({ e' with key := vi i, val := v } : MapEntry).key = e'.key := fun e' he' => by rw [hj] at he'; cases he'; exact hx.symm
  have hmem : ∀ y, y ∈ (a.modify j fun e => { e with key := vi i, val := v }).toList ↔ ∃ q, (if j = q then (a[q]?).map (fun e => ({ e with key := vi i, val := v } : MapEntry)) else a[q]?) = some y := fun y => by
   rw [List.mem_iff_getElem?]
   simp only [Array.getElem?_toList, Array.getElem?_modify]
  have hal : ∀ y, y ∈ a.toList ↔ ∃ q, a[q]? = some y := fun y => by
   rw [List.mem_iff_getElem?]
   simp only [Array.getElem?_toList]
   exact Iff.rfl
  have huniq : ∀ q y, a[q]? = some y → y.key = vi i → q = j := fun q y hq hy => by
   have h5 := hs.2.2
   have hj' : (a.toList.map (·.key))[j]? = some (vi i) := by simp [hj, hx]
   have hq' : (a.toList.map (·.key))[q]? = some (vi i) := by simp [hq, hy]
   obtain ⟨l1, e1⟩ := List.getElem?_eq_some_iff.1 hj'
   obtain ⟨l2, e2⟩ := List.getElem?_eq_some_iff.1 hq'
   exact nodup_inj h5 l2 l1 (e2.trans e1.symm)
  refine ⟨a.modify j fun e => { e with key := vi i, val := v }, c, ?_, stamped_modify hs _ _ (fun _ _ => rfl) (fun e' _ he' => hkey e' he'), ?_⟩
  ·simp [Instr.mapUpdate, run_underlying hm, MapKept.run_getObj_map hb, run_checkKey (k := vi i) hd rfl, run_findKey hd h1, hj, hx, run_keyThatStays (d := .int .i64) (k := vi i) rfl, MapKept.run_setObj_map _ hb, Result.andThen]
  ·refine ⟨by simp [h2, h.1], ?_, ?_⟩
   ·intro y hy
    obtain ⟨q, hq⟩ := (hmem y).1 hy
    by_cases hjq : j = q
    ·rw [if_pos hjq] at hq
     cases ha : a[q]? with
     | none => rw [ha] at hq; cases hq
     | some u => rw [ha] at hq; injection hq with hq; exact ⟨i, by rw [← hq]⟩
    ·rw [if_neg hjq] at hq; exact h.2.1 y ((hal y).2 ⟨q, hq⟩)
   ·intro k' u
    by_cases hki : k' = i
    ·subst hki
     rw [put_same]
     constructor
     ·intro hu; injection hu with hu; subst hu
      exact ⟨_, (hmem _).2 ⟨j, by rw [if_pos rfl, hj]; rfl⟩, rfl, rfl⟩
     ·rintro ⟨y, hy, h4, h5⟩
      obtain ⟨q, hq⟩ := (hmem y).1 hy
      by_cases hjq : j = q
      ·subst hjq
       rw [if_pos rfl, hj] at hq
       injection hq with hq
       rw [← h5, ← hq]
      ·rw [if_neg hjq] at hq
       exact absurd (huniq q y hq h4).symm hjq
    ·rw [put_ne _ _ hki, h.2.2]
     constructor
     ·rintro ⟨y, hy, h4, h5⟩
      obtain ⟨q, hq⟩ := (hal y).1 hy
      refine ⟨y, (hmem y).2 ⟨q, ?_⟩, h4, h5⟩
      rw [if_neg]
      ·exact hq
      ·intro hjq; subst hjq
       rw [hj] at hq; injection hq with hq; subst hq
       rw [hx] at h4; injection h4 with _ h4; exact hki h4.symm
     ·rintro ⟨y, hy, h4, h5⟩
      obtain ⟨q, hq⟩ := (hmem y).1 hy
      by_cases hjq : j = q
      ·subst hjq
       rw [if_pos rfl, hj] at hq
       injection hq with hq
       rw [← hq] at h4
       injection h4 with _ h4; exact absurd h4.symm hki
      ·rw [if_neg hjq] at hq
       exact ⟨y, (hal y).2 ⟨q, hq⟩, h4, h5⟩
theorem MapIs.del {a : Array MapEntry} {c : Nat} {f : Int → Option Value} {n : Nat} (h : MapIs a f n) (hs : Stamped a c) (i : Int) {P : Program} {t kt ty b : Nat} {z : Value} (hk : mapk P t = some z) {w : World} (hb : w.heap[b]? = some (.map a c)) :
  ∃ a' c', (Builtin.delete_ #[t, kt] ty #[.map (some b), vi i]).run P w = .ok (.tuple #[]) { w with heap := w.heap.setIfInBounds b (.map a' c') } ∧ Stamped a' c' ∧ MapIs a' (Sl.del f i) (if (f i).isSome then n - 1 else n) := by
 obtain ⟨k, e, hm, hd, hz⟩ := MapK.und hk
 rcases h.find i with ⟨h1, h2, h3⟩ | ⟨j, x, h1, hj, hx, h2⟩
 ·refine ⟨a, c, ?_, hs, ?_⟩
  ·simp [Builtin.delete_, run_underlying hm, MapKept.run_getObj_map hb, run_checkKey (k := vi i) hd rfl, run_findKey hd h1, MapKept.run_setObj_map _ hb, Result.andThen]
  ·have : Sl.del f i = f := by
    funext k'
    by_cases hki : k' = i
    ·subst hki; rw [del_same, h2]
    ·rw [del_ne _ hki]
   rw [this]
   simpa [h2] using h
 ·have huniq : ∀ (q : Nat) y, a.toList[q]? = some y → y.key = vi i → q = j := fun q y hq hy => by
   have h5 := hs.2.2
   have hj' : (a.toList.map (·.key))[j]? = some (vi i) := by simp [hj, hx]
   have hq' : (a.toList.map (·.key))[q]? = some (vi i) := by rw [List.getElem?_map, hq]; simp [hy]
   obtain ⟨l1, e1⟩ := List.getElem?_eq_some_iff.1 hj'
   obtain ⟨l2, e2⟩ := List.getElem?_eq_some_iff.1 hq'
   exact nodup_inj h5 l2 l1 (e2.trans e1.symm)
  have hlt : j < a.size := (Array.getElem?_eq_some_iff.1 hj).1
  have hel : (a.eraseIdxIfInBounds j).toList = a.toList.eraseIdx j := by
   unfold Array.eraseIdxIfInBounds
   rw [dif_pos hlt]
   simp
  have hmem : ∀ y, y ∈ (a.eraseIdxIfInBounds j).toList ↔ y ∈ a.toList ∧ y.key ≠ vi i := fun y => by
   rw [hel, List.mem_eraseIdx_iff_getElem?, List.mem_iff_getElem?]
   constructor
   ·rintro ⟨q, hq, hy⟩
    exact ⟨⟨q, hy⟩, fun hk' => hq (huniq q y hy hk')⟩
   ·rintro ⟨⟨q, hy⟩, hk'⟩
    refine ⟨q, fun hq => ?_, hy⟩
    subst hq
    rw [Array.getElem?_toList, hj] at hy
    injection hy with hy
    subst hy
    exact hk' hx
  refine ⟨a.eraseIdxIfInBounds j, c, ?_, stamped_erase hs j, ?_, ?_, ?_⟩
  ·simp [Builtin.delete_, run_underlying hm, MapKept.run_getObj_map hb, run_checkKey (k := vi i) hd rfl, run_findKey hd h1, MapKept.run_setObj_map _ hb, Result.andThen]
  ·rw [h2]
   show (a.eraseIdxIfInBounds j).size = n - 1
   rw [← Array.length_toList, hel, List.length_eraseIdx_of_lt (by simpa using hlt), Array.length_toList, h.1]
  ·intro y hy; exact h.2.1 y ((hmem y).1 hy).1
  ·intro k' u
   by_cases hki : k' = i
   ·subst hki
    rw [del_same]
    constructor
    ·intro hu; cases hu
    ·rintro ⟨y, hy, h4, _⟩; exact absurd h4 ((hmem y).1 hy).2
   ·rw [del_ne _ hki, h.2.2]
    constructor
    ·rintro ⟨y, hy, h4, h5⟩
     exact ⟨y, (hmem y).2 ⟨hy, fun h6 => hki (by rw [h4] at h6; injection h6)⟩, h4, h5⟩
    ·rintro ⟨y, hy, h4, h5⟩; exact ⟨y, ((hmem y).1 hy).1, h4, h5⟩
section
variable {Γ : Cx} {ops : Array Oper} {rest : List Oper} {ρ : Nat → Value} {I : Mem} {L : List HP} {Q : Post} {ty : TypeId} {ps : String} {af : Array Edge}
theorem Sat.mpLook {E : Ev} {w : World} {b n : Nat} {f : Int → Option Value} (k : Nat) (hL : L[k]? = some (mp b f n)) (h : Sat E w I L) : ∃ a c, Stamped a c ∧ MapIs a f n ∧ w.heap[b]? = some (.map a c) := by
 obtain ⟨a, c, h1, h2, h3⟩ := h.mpOpen k hL
 have hlt : k < L.length := (List.getElem?_eq_some_iff.1 hL).1
 exact ⟨a, c, h1, h2, h3.lookK (k := k) (by simp [hlt])⟩
theorem Val.lookup2 {t b n : Nat} {x y : Operand} {i : Int} {z : Value} {f : Int → Option Value} (k : Nat) [hk : MapK Γ.P t z] (hx : ev ρ x = .map (some b)) (hy : ev ρ y = vi i) (hL : L[k]? = some (mp b f n)) :
  Val Γ ρ I L (.lookup t x y true) ty (.tuple #[(f i).getD z, .bool (f i).isSome]) := fun w hw => by
 obtain ⟨a, c, h1, h2, hb⟩ := hw.mpLook k hL
 have := run_look hk.is hb h2 i true
 simp only [if_true] at this
 simp only [execOp, hx, hy, Sem.run_bind, this, Result.andThen_ok]
 rfl
theorem Val.lookup1 {t b n : Nat} {x y : Operand} {i : Int} {z : Value} {f : Int → Option Value} (k : Nat) [hk : MapK Γ.P t z] (hx : ev ρ x = .map (some b)) (hy : ev ρ y = vi i) (hL : L[k]? = some (mp b f n)) :
  Val Γ ρ I L (.lookup t x y false) ty ((f i).getD z) := fun w hw => by
 obtain ⟨a, c, h1, h2, hb⟩ := hw.mpLook k hL
 have := run_look hk.is hb h2 i false
 simp only [Bool.false_eq_true, if_false] at this
 simp only [execOp, hx, hy, Sem.run_bind, this, Result.andThen_ok]
 rfl
theorem Val.lenMap {t b n : Nat} {x : Operand} {z : Value} {f : Int → Option Value} (k : Nat) [hk : MapK Γ.P t z] (hx : ev ρ x = .map (some b)) (hL : L[k]? = some (mp b f n)) :
  Val Γ ρ I L (.call { callee := .builtin .len, args := #[x], argTypes := #[t] }) ty (vi n) := fun w hw => by
 obtain ⟨a, c, h1, h2, hb⟩ := hw.mpLook k hL
 obtain ⟨kt, e, hm, hd, hz⟩ := MapK.und hk.is
 simp only [execOp, resolve, List.map_toArray, List.map_cons, List.map_nil, hx, pure_bind, invoke, builtin, Builtin.len_]
 simp [Sem.run_bind, run_underlying hm, MapKept.run_getObj_map hb, goInt, h2.1]
theorem Sat.mpSet {E : Ev} {w : World} {b n n' c : Nat} {f f' : Int → Option Value} {a : Array MapEntry} (k : Nat) (hL : L[k]? = some (mp b f n)) (h1 : Stamped a c) (h2 : MapIs a f' n') (h : Sat E w I L) :
  Sat E { w with heap := w.heap.setIfInBounds b (.map a c) } I (L.set k (mp b f' n')) := by
 obtain ⟨a0, c0, _, _, h3⟩ := h.mpOpen k hL
 have hlt : k < L.length := (List.getElem?_eq_some_iff.1 hL).1
 have hg : (L.set k (pt b (.map a0 c0)))[k]? = some (pt b (.map a0 c0)) := by simp [hlt]
 have hb := h3.lookK hg
 have h4 := h3.writeK hg (.map a c) (w.heap.setIfInBounds b (.map a c)) (heap_set hb).1 (fun j hj => (heap_set hb).2 j hj)
 rw [List.set_set] at h4
 have h5 := h4.mpClose (b := b) (f := f') (n := n') k (by simp [hlt]) h1 h2
 rw [List.set_set] at h5
 exact h5
theorem WL.mapUpdate {t b n : Nat} {m x y : Operand} {i : Int} {z : Value} {f : Int → Option Value} (k : Nat) [hk : MapK Γ.P t z] (hm : ev ρ m = .map (some b)) (hx : ev ρ x = vi i) (hL : L[k]? = some (mp b f n))
  (next : WL Γ ops rest ρ I (L.set k (mp b (Sl.put f i (ev ρ y)) (if (f i).isSome then n else n + 1))) Q) : WL Γ ops ({ dst := none, op := .mapUpdate t m x y, type := ty, pos := ps, after := af, guard := none } :: rest) ρ I L Q :=
 WL.effN (fun w hw => by
  obtain ⟨a, c, h1, h2, hb⟩ := hw.mpLook k hL
  obtain ⟨a', c', h3, h4, h5⟩ := h2.put h1 i (ev ρ y) hk.is hb
  exact ⟨_, by simp only [execOp, hm, hx, Sem.run_bind, h3, Result.andThen_ok]; rfl, hw.mpSet k hL h4 h5⟩) next
theorem WL.insert {t b n : Nat} {m x y : Operand} {i : Int} {z : Value} {f : Int → Option Value} (k : Nat) [hk : MapK Γ.P t z] (hm : ev ρ m = .map (some b)) (hx : ev ρ x = vi i) (hL : L[k]? = some (mp b f n))
  (next : WL Γ ops rest ρ I (L.set k (mp b (Sl.put f i (ev ρ y)) (if (f i).isSome then n else n + 1))) Q) : WL Γ ops ({ dst := none, op := .insert t m x y, type := ty, pos := ps, after := af, guard := none } :: rest) ρ I L Q :=
 WL.effN (fun w hw => by
  obtain ⟨a, c, h1, h2, hb⟩ := hw.mpLook k hL
  obtain ⟨a', c', h3, h4, h5⟩ := h2.put h1 i (ev ρ y) hk.is hb
  exact ⟨_, by simp only [execOp, hm, hx, Sem.run_bind, h3, Result.andThen_ok]; rfl, hw.mpSet k hL h4 h5⟩) next
theorem WL.delete {t kt b n : Nat} {m x : Operand} {i : Int} {z : Value} {f : Int → Option Value} (k : Nat) [hk : MapK Γ.P t z] (hm : ev ρ m = .map (some b)) (hx : ev ρ x = vi i) (hL : L[k]? = some (mp b f n))
  (next : WL Γ ops rest ρ I (L.set k (mp b (Sl.del f i) (if (f i).isSome then n - 1 else n))) Q) : WL Γ ops ({ dst := none, op := .call { callee := .builtin .delete, args := #[m, x], argTypes := #[t, kt] }, type := ty, pos := ps, after := af, guard := none } :: rest) ρ I L Q := by
 intro a w ha hw
 simp only [wpList, Region.wanted, if_true]
 refine .inl ?_
 unfold Oper.wp
 obtain ⟨a0, c0, h1, h2, hb⟩ := hw.mpLook k hL
 obtain ⟨a', c', h3, h4, h5⟩ := h2.del h1 i (kt := kt) (ty := ty) hk.is hb
 have hr : (execOp (ev ρ) { dst := none, op := .call { callee := .builtin .delete, args := #[m, x], argTypes := #[t, kt] }, type := ty, pos := ps, after := af, guard := none }).run Γ.P w = .ok (.value (.tuple #[])) { w with heap := w.heap.setIfInBounds b (.map a' c') } := by
  simp only [execOp, resolve, List.map_toArray, List.map_cons, List.map_nil, hm, hx, pure_bind, invoke, builtin, Sem.run_bind, h3, Result.andThen_ok]
  rfl
 rw [ha.ev, hr]
 exact next _ _ ha (hw.mpSet k hL h4 h5)
theorem WL.makeMap {d t : Nat} (hd : Nat.blt d Γ.n = true) (next : ∀ b, WL Γ ops rest (upd ρ d (.map (some b))) I (L ++ [mp b (fun _ => none) 0]) Q) :
  WL Γ ops ({ dst := some d, op := .makeMap t none, type := ty, pos := ps, after := af, guard := none } :: rest) ρ I L Q :=
 WL.effX (fun w hw => by
  have h1 := hw.alloc (.map #[] 0)
  have h2 := h1.mpClose (b := w.heap.size) (f := fun _ => none) (n := 0) L.length (by simp) (stamped_empty 0) ⟨rfl, by simp, by simp⟩
  rw [List.set_append_right _ _ (Nat.le_refl _), Nat.sub_self, List.set_cons_zero] at h2
  exact ⟨_, _, _, _, by simp only [execOp]; rfl, h2, next _⟩) hd
end
end Go.Sl

namespace Go.Sl
open Go Go.Ls Go.MapKept
theorem MapIs.uniq {a : Array MapEntry} {c : Nat} (hs : Stamped a c) {j q : Nat} {x y : MapEntry} (hj : a[j]? = some x) (hq : a[q]? = some y) (h : y.key = x.key) : q = j := by
 have h5 := hs.2.2
 have hj' : (a.toList.map (·.key))[j]? = some x.key := by simp [hj]
 have hq' : (a.toList.map (·.key))[q]? = some x.key := by simp [hq, h]
 obtain ⟨l1, e1⟩ := List.getElem?_eq_some_iff.1 hj'
 obtain ⟨l2, e2⟩ := List.getElem?_eq_some_iff.1 hq'
 exact nodup_inj h5 l2 l1 (e2.trans e1.symm)
theorem MapIs.bornIdx {a : Array MapEntry} {c : Nat} (hs : Stamped a c) {j : Nat} {x : MapEntry} (hj : a[j]? = some x) : a.findIdx? (fun e => (e.born : Int) == (x.born : Int)) = some j := by
 obtain ⟨hlt, hx⟩ := Array.getElem?_eq_some_iff.1 hj
 rw [Array.findIdx?_eq_some_iff_getElem]
 refine ⟨hlt, by rw [hx]; exact beq_self_eq_true _, fun q hq => ?_⟩
 have h5 := hs.2.1
 have hne : a[q].born ≠ x.born := fun e => by
  have l1 : q < (a.toList.map (·.born)).length := by simp; omega
  have l2 : j < (a.toList.map (·.born)).length := by simp; exact hlt
  have := nodup_inj h5 l1 l2 (by simp [e, hx])
  omega
 have hb : ((a[q].born : Int) == (x.born : Int)) = false := beq_eq_false_iff_ne.2 fun e => hne (by exact_mod_cast e)
 simp [hb]
theorem MapIs.entry {a : Array MapEntry} {c : Nat} {f : Int → Option Value} {n : Nat} (h : MapIs a f n) (hs : Stamped a c) (i : Int) (v : Value) (hf : f i = some v) {P : Program} {t b : Nat} {z : Value} (hk : mapk P t = some z) {w : World} (hb : w.heap[b]? = some (.map a c)) :
  ∃ (j : Nat) (x : MapEntry), a[j]? = some x ∧ x.key = vi i ∧ (Instr.mapEntry t (.map (some b)) (vi i)).run P w = .ok (.tuple #[v, vi x.born]) w := by
 obtain ⟨k, e, hm, hd, hz⟩ := MapK.und hk
 rcases h.find i with ⟨_, h2, _⟩ | ⟨j, x, h1, hj, hx, h2⟩
 ·rw [hf] at h2; cases h2
 ·refine ⟨j, x, hj, hx, ?_⟩
  have hv : x.val = v := by rw [hf] at h2; injection h2 with h2; exact h2.symm
  have hid : (a.modify j fun e => { e with key := vi i }) = a := by
   apply Array.ext_getElem?
   intro q
   rw [Array.getElem?_modify]
   split
   ·rename_i hq
    subst hq
    rw [hj]
    cases x
    simp only at hx
    subst hx
    rfl
   ·rfl
  have hw : { w with heap := w.heap.setIfInBounds b (.map a c) } = w := by
   have : w.heap.setIfInBounds b (.map a c) = w.heap := by
    apply Array.ext_getElem?
    intro q
    rw [Array.getElem?_setIfInBounds]
    split
    ·rename_i hq
     subst hq
     rw [hb]
     simp [(Array.getElem?_eq_some_iff.1 hb).1]
    ·rfl
   rw [this]
  simp [Instr.mapEntry, run_underlying hm, MapKept.run_getObj_map hb, run_checkKey (k := vi i) hd rfl, run_findKey hd h1, hj, hx, run_keyThatStays (d := .int .i64) (k := vi i) rfl, MapKept.run_setObj_map _ hb, Result.andThen, hid, hw, hv, goInt]
theorem MapIs.entryPut {a : Array MapEntry} {c : Nat} {f : Int → Option Value} {n j : Nat} {x : MapEntry} (h : MapIs a f n) (hs : Stamped a c) (i : Int) (v : Value) (hj : a[j]? = some x) (hx : x.key = vi i) {P : Program} {t b : Nat} {z : Value} (hk : mapk P t = some z) {w : World} (hb : w.heap[b]? = some (.map a c)) :
  ∃ a', (Instr.entryStore t (.map (some b)) (vi x.born) v).run P w = .ok () { w with heap := w.heap.setIfInBounds b (.map a' c) } ∧ Stamped a' c ∧ MapIs a' (Sl.put f i v) n := by
 obtain ⟨k, e, hm, hd, hz⟩ := MapK.und hk
 obtain ⟨a', c', hrun, hs', hm'⟩ := h.put hs i v hk hb
 have hfi : f i = some x.val := (h.2.2 i _).2 ⟨x, List.mem_of_getElem? (by simpa using hj), hx, rfl⟩
 rcases h.find i with ⟨_, h2, _⟩ | ⟨j', y, h1, hj', hy, _⟩
 ·rw [hfi] at h2; cases h2
 have hjj : j' = j := MapIs.uniq hs hj hj' (hy.trans hx.symm)
 subst hjj
 rw [hj] at hj'
 injection hj' with hxy
 subst hxy
 have hrun2 : (Instr.mapUpdate t (.map (some b)) (vi i) v).run P w = .ok () { w with heap := w.heap.setIfInBounds b (.map (a.modify j' fun e => { e with key := vi i, val := v }) c) } := by
  simp [Instr.mapUpdate, run_underlying hm, MapKept.run_getObj_map hb, run_checkKey (k := vi i) hd rfl, run_findKey hd h1, hj, hx, run_keyThatStays (d := .int .i64) (k := vi i) rfl, MapKept.run_setObj_map _ hb, Result.andThen]
 rw [hrun] at hrun2
 injection hrun2 with _ hw
 have hh := congrArg (fun w => w.heap[b]?) hw
 have hlt := (Array.getElem?_eq_some_iff.1 hb).1
 simp [hlt] at hh
 obtain ⟨rfl, rfl⟩ := hh
 have hmod : (a.modify j' fun e => { e with val := v }) = a.modify j' fun e => { e with key := vi i, val := v } := by
  apply Array.ext_getElem?
  intro q
  rw [Array.getElem?_modify, Array.getElem?_modify]
  split
  ·rename_i hq
   subst hq
   rw [hj]
   cases x
   simp only at hx
   subst hx
   rfl
  ·rfl
 refine ⟨_, ?_, hs', by simpa [hfi] using hm'⟩
 rw [← hmod]
 simp [Instr.entryStore, MapKept.run_getObj_map hb, asInt, asIntOf, Result.andThen, MapIs.bornIdx hs hj, MapKept.run_setObj_map _ hb]
section
variable {Γ : Cx} {ops : Array Oper} {rest : List Oper} {ρ : Nat → Value} {I : Mem} {L : List HP} {Q : Post} {ty : TypeId} {ps : String} {af : Array Edge}
theorem WL.mapEntry {d t b n : Nat} {m x : Operand} {i : Int} {z v : Value} {f : Int → Option Value} (k : Nat) [hk : MapK Γ.P t z] (hm : ev ρ m = .map (some b)) (hx : ev ρ x = vi i) (hL : L[k]? = some (mp b f n)) (hf : f i = some v) (hd : Nat.blt d Γ.n = true)
  (next : ∀ (a : Array MapEntry) (c j : Nat) (e : MapEntry), Stamped a c → MapIs a f n → a[j]? = some e → e.key = vi i → WL Γ ops rest (upd ρ d (.tuple #[v, vi e.born])) I (L.set k (pt b (.map a c))) Q) :
  WL Γ ops ({ dst := some d, op := .mapEntry t m x, type := ty, pos := ps, after := af, guard := none } :: rest) ρ I L Q :=
 WL.effX (fun w hw => by
  obtain ⟨a, c, h1, h2, hb⟩ := hw.mpLook k hL
  obtain ⟨a', c', h1', h2', hs⟩ := hw.mpOpen k hL
  have hlt : k < L.length := (List.getElem?_eq_some_iff.1 hL).1
  have hb' := hs.lookK (k := k) (b := b) (o := .map a' c') (by simp [hlt])
  rw [hb] at hb'
  injection hb' with hb'
  injection hb' with e1 e2
  subst e1; subst e2
  obtain ⟨j, e, hj, he, hrun⟩ := h2.entry h1 i v hf hk.is hb
  exact ⟨_, w, I, _, by simp only [execOp, hm, hx, Sem.run_bind, hrun, Result.andThen_ok]; rfl, hs, next _ _ j e h1 h2 hj he⟩) hd
theorem WL.entryStore {t b n c j : Nat} {m s x : Operand} {i : Int} {z : Value} {f : Int → Option Value} {a : Array MapEntry} {e : MapEntry} (k : Nat) [hk : MapK Γ.P t z] (hm : ev ρ m = .map (some b)) (hs : ev ρ s = vi e.born) (hL : L[k]? = some (pt b (.map a c)))
  (h1 : Stamped a c) (h2 : MapIs a f n) (hj : a[j]? = some e) (he : e.key = vi i)
  (next : WL Γ ops rest ρ I (L.set k (mp b (Sl.put f i (ev ρ x)) n)) Q) :
  WL Γ ops ({ dst := none, op := .entryStore t m s x, type := ty, pos := ps, after := af, guard := none } :: rest) ρ I L Q :=
 WL.effN (fun w hw => by
  have hb := hw.lookK hL
  obtain ⟨a', hrun, h3, h4⟩ := h2.entryPut h1 i (ev ρ x) hj he hk.is hb
  refine ⟨_, by simp only [execOp, hm, hs, Sem.run_bind, hrun, Result.andThen_ok]; rfl, ?_⟩
  have hlt : k < L.length := (List.getElem?_eq_some_iff.1 hL).1
  have h5 := hw.writeK hL (.map a' c) (w.heap.setIfInBounds b (.map a' c)) (heap_set hb).1 (fun j hj => (heap_set hb).2 j hj)
  have h6 := h5.mpClose (b := b) (f := Sl.put f i (ev ρ x)) (n := n) k (by simp [hlt]) h3 h4
  rw [List.set_set] at h6
  exact h6) next
end
end Go.Sl

namespace Go.Sl
open Go.Ls
theorem splice_get {cs vs : List Value} {off : Nat} (h : off ≤ cs.length) (j : Nat) : (splice cs off vs)[j]? = if j < off then cs[j]? else if j < off + vs.length then vs[j - off]? else cs[j]? := by
 unfold splice
 rw [List.append_assoc]
 by_cases h1 : j < off
 ·rw [if_pos h1, List.getElem?_append_left (by rw [List.length_take]; omega), List.getElem?_take, if_pos h1]
 ·rw [if_neg h1, List.getElem?_append_right (by rw [List.length_take]; omega), List.length_take, Nat.min_eq_left h]
  by_cases h2 : j < off + vs.length
  ·rw [if_pos h2, List.getElem?_append_left (by omega)]
  ·rw [if_neg h2, List.getElem?_append_right (by omega), List.getElem?_drop]
   congr 1; omega
theorem splice_take {cs vs : List Value} {off n : Nat} (h : off + vs.length ≤ n) (hn : n ≤ cs.length) : (splice cs off vs).take n = splice (cs.take n) off vs := by
 apply List.ext_getElem?
 intro j
 rw [List.getElem?_take, splice_get (by omega), splice_get (by rw [List.length_take]; omega)]
 simp only [List.getElem?_take]
 by_cases h1 : j < n
 ·simp [h1]
 ·rw [if_neg h1, if_neg (by omega), if_neg (by omega), if_neg h1]
theorem flat_at {sz : Nat} (hsz : 0 < sz) : ∀ (css : List (List Value)) (h : ∀ c ∈ css, c.length = sz) (i f : Nat), f < sz → css.flatten[i * sz + f]? = (css[i]?).bind fun c => c[f]?
 | [], _, i, f, _ => by simp
 | c :: css, h, 0, f, hf => by
  have := h c (.head _)
  rw [List.flatten_cons, Nat.zero_mul, Nat.zero_add, List.getElem?_append_left (by omega)]
  rfl
 | c :: css, h, i + 1, f, hf => by
  have h1 := h c (.head _)
  rw [List.flatten_cons, List.getElem?_append_right (by rw [h1, Nat.add_mul]; omega), h1, show (i + 1) * sz + f - sz = i * sz + f by rw [Nat.add_mul]; omega, flat_at hsz css (fun c hc => h c (.tail _ hc)) i f hf]
  rfl
theorem flat_len' {sz : Nat} : ∀ (css : List (List Value)) (h : ∀ c ∈ css, c.length = sz), css.flatten.length = css.length * sz
 | [], _ => by simp
 | c :: css, h => by rw [List.flatten_cons, List.length_append, h c (.head _), flat_len' css (fun c hc => h c (.tail _ hc)), List.length_cons, Nat.add_mul]; omega
theorem flat_splice {sz : Nat} (hsz : 0 < sz) (css : List (List Value)) (h : ∀ c ∈ css, c.length = sz) (i f : Nat) (vs : List Value) (hi : i < css.length) (hf : f + vs.length ≤ sz) :
  splice css.flatten (i * sz + f) vs = (css.set i (splice css[i] f vs)).flatten := by
 have hci := h css[i] (List.getElem_mem hi)
 have hs : (splice css[i] f vs).length = sz := by rw [splice_length (by omega), hci]
 have hset : ∀ c ∈ css.set i (splice css[i] f vs), c.length = sz := fun c hc => by
  rcases List.mem_or_eq_of_mem_set hc with hc | rfl
  ·exact h c hc
  ·exact hs
 have hle : i * sz + sz ≤ css.length * sz := by rw [← Nat.succ_mul]; exact Nat.mul_le_mul_right _ hi
 apply List.ext_getElem?
 intro j
 rw [splice_get (by rw [flat_len' css h]; omega)]
 have hj : j / sz * sz + j % sz = j := by rw [Nat.mul_comm]; exact Nat.div_add_mod j sz
 have hm : j % sz < sz := Nat.mod_lt _ hsz
 have e1 := flat_at hsz css h (j / sz) (j % sz) hm
 have e2 := flat_at hsz (css.set i (splice css[i] f vs)) hset (j / sz) (j % sz) hm
 rw [hj] at e1 e2
 rw [e2, List.getElem?_set]
 by_cases hij : i = j / sz
 ·rw [if_pos hij, if_pos hi]
  simp only [Option.bind_some]
  rw [splice_get (by omega)]
  have e3 : css.flatten[j]? = (css[i])[j % sz]? := by rw [e1, ← hij, List.getElem?_eq_getElem hi]; rfl
  rw [e3]
  rw [← hij] at hj
  by_cases a1 : j % sz < f
  ·rw [if_pos (by omega), if_pos a1]
  ·rw [if_neg (by omega), if_neg a1]
   by_cases a2 : j % sz < f + vs.length
   ·rw [if_pos (by omega), if_pos a2]; congr 1; omega
   ·rw [if_neg (by omega), if_neg a2]
 ·rw [if_neg hij, ← e1]
  by_cases a1 : j < i * sz + f
  ·rw [if_pos a1]
  ·rw [if_neg a1, if_neg]
   intro a2
   apply hij
   exact (Nat.div_eq_of_lt_le (by omega) (by rw [Nat.add_mul]; omega)).symm
theorem Sat.slOut {E : Ev} {w : World} {I : Mem} {L : List HP} {e sz n cap g : Nat} {xs : List Value} (k : Nat) (hL : L[k]? = some (sl e sz (.slice (some ⟨g, 0, none⟩) n cap) n xs)) (h : Sat E w I L) :
  ∃ cs : List Value, cs.length = cap * sz ∧ cs.take (n * sz) = xs ∧ n ≤ cap ∧ cap ≤ maxLen ∧ Sat E w I (L.set k (box g e cs)) := by
 have hp := h.perm (pull k L _ hL)
 obtain ⟨m, a, d, m1, m2, e1, e2, e3, ⟨hl, e4⟩, e5⟩ := hp.own
 rcases e4 with ⟨h0, _⟩ | ⟨g', cap', cur, hv, hg, h1, h2, h3, h4⟩
 ·cases h0
 ·injection hv with hv hn hc
  injection hv with hv
  injection hv with hv
  subst hv; subst hc
  have : Sat E w I (box g e cur.toList :: L.eraseIdx k) := ⟨hp.tape, hp.os, hp.output, hp.imm, m, a, d, m1, m2, e1, e2, e3, by simpa [box, pt] using hg, e5⟩
  exact ⟨cur.toList, by simpa using h3, h4, h1, h2, this.perm (push_back k L _ _ hL)⟩
theorem Sat.slIn {E : Ev} {w : World} {I : Mem} {L : List HP} {e sz n cap g : Nat} {cs : List Value} (k : Nat) (hL : L[k]? = some (box g e cs)) (h1 : cs.length = cap * sz) (h2 : n ≤ cap) (h3 : cap ≤ maxLen) (h : Sat E w I L) :
  Sat E w I (L.set k (sl e sz (.slice (some ⟨g, 0, none⟩) n cap) n (cs.take (n * sz)))) := by
 have hp := h.perm (pull k L _ hL)
 obtain ⟨m, a, d, m1, m2, e1, e2, e3, e4, e5⟩ := hp.own
 have : Sat E w I (sl e sz (.slice (some ⟨g, 0, none⟩) n cap) n (cs.take (n * sz)) :: L.eraseIdx k) :=
  ⟨hp.tape, hp.os, hp.output, hp.imm, m, a, d, m1, m2, e1, e2, e3, ⟨by rw [List.length_take, h1]; exact Nat.min_eq_left (Nat.mul_le_mul_right _ h2), .inr ⟨g, cap, cs.toArray, rfl, e4, h2, h3, by simpa using h1, by simp⟩⟩, e5⟩
 exact this.perm (push_back k L _ _ hL)
section
variable {Γ : Cx} {ops : Array Oper} {rest : List Oper} {ρ : Nat → Value} {I : Mem} {L : List HP} {Q : Post} {ty : TypeId} {ps : String} {af : Array Edge}
theorem WL.storeSl {t e sz n cap g off n' : Nat} {ag : Bool} {x y : Operand} {xs : List Value} (k : Nat) [hk : TyK Γ.P t ag n'] (hx : ev ρ x = .pointer (some ⟨g, off, none⟩)) (hL : L[k]? = some (sl e sz (.slice (some ⟨g, 0, none⟩) n cap) n xs))
  (hn : (ev ρ y).cells.toList.length = n') (h1 : (ev ρ y).cells.toList.all Value.oneCell' = true) (hb : off + (ev ρ y).cells.toList.length ≤ n * sz)
  (next : WL Γ ops rest ρ I (L.set k (sl e sz (.slice (some ⟨g, 0, none⟩) n cap) n (splice xs off (ev ρ y).cells.toList))) Q) : WL Γ ops ({ dst := none, op := .store t x y, type := ty, pos := ps, after := af, guard := none } :: rest) ρ I L Q :=
 WL.effN (fun w hw => by
  obtain ⟨cs, c1, c2, c3, c4, hw'⟩ := hw.slOut k hL
  have hlt : k < L.length := (List.getElem?_eq_some_iff.1 hL).1
  have hg : (L.set k (Sl.box g e cs))[k]? = some (Sl.box g e cs) := by simp [hlt]
  have hle : n * sz ≤ cs.length := by rw [c1]; exact Nat.mul_le_mul_right _ c3
  have hst := setRow_sat hw' hg (splice cs off (ev ρ y).cells.toList)
  rw [List.set_set] at hst
  have hsl := hst.slIn (sz := sz) (n := n) (cap := cap) k (by simp [hlt]; rfl) (by rw [splice_length (by omega), c1]) c3 c4
  rw [List.set_set, splice_take hb hle, c2] at hsl
  have hrun := run_storeVar (P := Γ.P) (v := ev ρ y) (vs := (ev ρ y).cells.toList) (cs := cs) (off := off) (b := g) (bt := e) hk.is (by simp) hn h1 (Nat.ble_eq_true_of_le (by omega)) w (hw'.lookK hg)
  exact ⟨_, by
   simp only [execOp, hx, Instr.storeAt, Instr.sureAddr, pure_bind, Sem.run_bind, hrun, Result.andThen_ok]; rfl, hsl⟩) next
theorem Sat.rowOut {E : Ev} {w : World} {M : List HP} {p : HP} (k i : Nat) (hL : L[k]? = some (sts M)) (hM : M[i]? = some p) (h : Sat E w I L) : Sat E w I (p :: L.set k (sts (M.eraseIdx i))) := by
 have h1 := (h.perm (pull k L _ hL)).imp (L' := sts (p :: M.eraseIdx i) :: L.eraseIdx k) fun m ⟨m1, m2, a, b, c, d, e⟩ => ⟨m1, m2, a, b, c, sts_perm (pull i M p hM) d, e⟩
 have h2 : Sat E w I (p :: sts (M.eraseIdx i) :: L.eraseIdx k) := h1.imp fun m hm => by
  have := sts_unfold hm
  obtain ⟨m1, m2, a, b, c, d, e⟩ := this
  exact ⟨m1, m2, a, b, c, d, sts_fold e⟩
 exact h2.perm ((push_back k L _ _ hL).cons p)
theorem Sat.rowIn {E : Ev} {w : World} {M : List HP} {p : HP} (k i : Nat) (hL : L[k]? = some (sts (M.eraseIdx i))) (hi : i < M.length) (h : Sat E w I (p :: L)) : Sat E w I (L.set k (sts (M.set i p))) := by
 have h1 := h.perm ((pull k L _ hL).cons p)
 have h2 : Sat E w I (sts (p :: M.eraseIdx i) :: L.eraseIdx k) := h1.imp fun m ⟨m1, m2, a, b, c, d, e⟩ => by
  have h3 := sts_unfold e
  exact sts_fold (l := p :: M.eraseIdx i) ⟨m1, m2, a, b, c, d, h3⟩
 have h4 : Sat E w I (sts (M.set i p) :: L.eraseIdx k) := h2.imp fun m ⟨m1, m2, a, b, c, d, e⟩ => ⟨m1, m2, a, b, c, sts_perm (push_back i M _ p (List.getElem?_eq_getElem hi)) d, e⟩
 exact h4.perm (push_back k L _ _ hL)
theorem Rd.row {g n cap e sz : Nat} {M : List HP} {xs : List Value} (k i : Nat) (hL : L[k]? = some (sts M)) (hM : M[i]? = some (sl e sz (.slice (some ⟨g, 0, none⟩) n cap) n xs)) (off : Nat) (vs : List Value) (hv : ∀ j v, vs[j]? = some v → xs[off + j]? = some v) : Rd I L g off vs := by
 intro E w hw
 exact Rd.slN (I := I) 0 rfl off vs hv E w (hw.rowOut k i hL hM)
theorem Rd.row1 {g n cap e sz off : Nat} {M : List HP} {xs : List Value} {v : Value} (k i : Nat) (hL : L[k]? = some (sts M)) (hM : M[i]? = some (sl e sz (.slice (some ⟨g, 0, none⟩) n cap) n xs)) (hv : xs[off]? = some v) : Rd I L g off [v] :=
 Rd.row k i hL hM off [v] fun j u hj => by
  cases j with
  | zero => simp at hj; subst hj; exact hv
  | succ j => simp at hj
theorem WL.rowOpen {e sz n : Nat} {v : Value} {M : List HP} {xs : List Value} (k i : Nat) (hL : L[k]? = some (sts M)) (hM : M[i]? = some (sl e sz v n xs)) (next : ∀ aa cap, v = .slice aa n cap → (0 < n → ∃ g, aa = some ⟨g, 0, none⟩) → WL Γ ops rest ρ I L Q) : WL Γ ops rest ρ I L Q := fun a w ha hw => by
 have h1 := hw.rowOut k i hL hM
 obtain ⟨m, hm, _, h2⟩ := h1.head
 rcases h2 with ⟨rfl, rfl⟩ | ⟨g, cap, cur, hv, _⟩
 ·exact next _ _ rfl (fun h => by omega) a w ha hw
 ·exact next _ _ hv (fun _ => ⟨g, rfl⟩) a w ha hw
theorem WC.rowOpen {c : Code} {e sz n : Nat} {v : Value} {M : List HP} {xs : List Value} (k i : Nat) (hL : L[k]? = some (sts M)) (hM : M[i]? = some (sl e sz v n xs)) (next : ∀ aa cap, v = .slice aa n cap → (0 < n → ∃ g, aa = some ⟨g, 0, none⟩) → WC Γ c ρ I L Q) : WC Γ c ρ I L Q := fun a w ha hw => by
 have h1 := hw.rowOut k i hL hM
 obtain ⟨m, hm, _, h2⟩ := h1.head
 rcases h2 with ⟨rfl, rfl⟩ | ⟨g, cap, cur, hv, _⟩
 ·exact next _ _ rfl (fun h => by omega) a w ha hw
 ·exact next _ _ hv (fun _ => ⟨g, rfl⟩) a w ha hw
def Keep (I : Mem) (L : List HP) (S : Value → Prop) : Value → Mem → List HP → Prop := fun v I' L' => I' = I ∧ L' = L ∧ S v
theorem WL.callK {d : Nat} {f : FuncId} {x : Operand} {args : List Operand} {ats : Array TypeId} {fs cp vs : List Value} {Lc Lr : List HP} {S : Value → Prop} (ks : List Nat) [hf : FnK Γ.P f]
  (hx : ev ρ x = .func (.func f) fs.toArray cp.toArray) (hv : fs ++ args.map (ev ρ) ++ cp = vs) (hp : picks ks L = some (Lc, Lr)) (hc : Ctr Γ.P f vs I Lc (Keep I Lc S)) (hd : Nat.blt d Γ.n = true)
  (next : ∀ v, S v → WL Γ ops rest (upd ρ d v) I L Q) :
  WL Γ ops ({ dst := some d, op := .call { callee := .value x, args := args.toArray, argTypes := ats }, type := ty, pos := ps, after := af, guard := none } :: rest) ρ I L Q :=
 WL.call ks hx hv hp hc hd fun v I' L' hI ⟨h1, h2, hS⟩ a w ha hw => by
  subst h1; subst h2
  exact next v hS a w ha (hw.perm (List.perm_append_comm.trans (picks_perm _ _ _ _ hp).symm))
def KeepR (L : List HP) (R : Value → Mem → Prop) : Value → Mem → List HP → Prop := fun v I' L' => L' = L ∧ R v I'
theorem WL.callR {d : Nat} {f : FuncId} {x : Operand} {args : List Operand} {ats : Array TypeId} {fs cp vs : List Value} {Lc Lr : List HP} {R : Value → Mem → Prop} (ks : List Nat) [hf : FnK Γ.P f]
  (hx : ev ρ x = .func (.func f) fs.toArray cp.toArray) (hv : fs ++ args.map (ev ρ) ++ cp = vs) (hp : picks ks L = some (Lc, Lr)) (hc : Ctr Γ.P f vs I Lc (KeepR Lc R)) (hd : Nat.blt d Γ.n = true)
  (next : ∀ v I', I.le I' → R v I' → WL Γ ops rest (upd ρ d v) I' L Q) :
  WL Γ ops ({ dst := some d, op := .call { callee := .value x, args := args.toArray, argTypes := ats }, type := ty, pos := ps, after := af, guard := none } :: rest) ρ I L Q :=
 WL.call ks hx hv hp hc hd fun v I' L' hI ⟨h2, hS⟩ a w ha hw => by
  subst h2
  exact next v I' hI hS a w ha (hw.perm (List.perm_append_comm.trans (picks_perm _ _ _ _ hp).symm))
theorem Val.maxI {x y : Operand} {i j : Int} {ats : Array TypeId} (hx : ev ρ x = .int .i64 i) (hy : ev ρ y = .int .i64 j) : Val Γ ρ I L (.call { callee := .builtin .max, args := #[x, y], argTypes := ats }) ty (vi (max i j)) := fun w hw => by
 have h : (if j > i then j else i) = max i j := by
  by_cases hq : j > i
  ·rw [if_pos hq]; omega
  ·rw [if_neg hq]; omega
 simp only [execOp, resolve, List.map_toArray, List.map_cons, List.map_nil, hx, hy, pure_bind, invoke, builtin, Builtin.max_]
 simp [Builtin.max2, Sem.run_bind, Result.andThen, h]
end
end Go.Sl

namespace Go.Sl
open Go.Ls
theorem run_append_zeros_grow {P : Program} (w : World) (t tn ty e : TypeId) (i : TypeInfo) (z : Value) (k kn : IntKind) (ht : P.underlying t = some (.slice e)) (htn : P.underlying tn = some (.int kn)) (hi : P.info? e = some i) (hz : i.zero = some z)
  (b : Addr) (sLen sCap : Nat) (olds : List Value) (hlo : olds.length = sLen * i.size) (holds : ∀ j v, olds[j]? = some v → w.cell? (b.add j) = some v)
  (n : Nat) (h0 : 0 < n) (hs : 0 < i.size) (hg : sCap < sLen + n) (h63 : ((sLen + n : Nat) : Int) ≤ 9223372036854775807) (hn48 : n * i.bytes ≤ 281474976710656) (hfit : Builtin.nextslicecap (sLen + n) sCap * i.bytes ≤ 281474976710656) :
  (Builtin.append_ #[t, tn] ty #[.slice (some b) sLen sCap, .int k n]).run P w =
   .ok (.slice (some ⟨w.heap.size, 0, none⟩) (sLen + n) (grownCap w (sLen + n) sCap e)) (w.drew.alloc (.cells (olds.toArray ++ Builtin.zeroCells z.cells n ++ Builtin.zeroCells z.cells (grownCap w (sLen + n) sCap e - (sLen + n))) e)) := by
 have hn : ¬ (sLen + n ≤ sCap) := by omega
 have hw : IntKind.i64.wrap (n : Int) = n := by rw [IntKind.wrap_i64]; omega
 have h63' : ¬ (9223372036854775807 < ((sLen : Int) + (n : Int))) := by omega
 have h48' : ¬ (281474976710656 < Builtin.nextslicecap (sLen + n) sCap * i.bytes) := by omega
 have h48i : ¬ (281474976710656 < (n : Int) * (i.bytes : Int)) := by
  rw [← Int.natCast_mul]
  omega
 have hneg : ¬ ((n : Int) < 0) := by omega
 have hns : ¬ (n * i.size = 0) := Nat.mul_ne_zero (by omega) (by omega)
 have hfo := run_firstCells_some (P := P) w.drew i.size sLen b sLen sCap olds hlo (by simpa using holds)
 simp [Builtin.append_, run_underlying ht, run_underlying htn, sizeOf, typeInfo, zeroValue, hi, hz, asInt, asIntOf, hw, hn, hneg, hns, h63', h48', h48i, Question.forced, hfo, newRow, grownCap]
theorem splice_lo {C vs : List Value} {off n : Nat} (h : n ≤ off) (ho : off ≤ C.length) : (splice C off vs).take n = C.take n := by
 apply List.ext_getElem?
 intro j
 rw [List.getElem?_take, List.getElem?_take, splice_get ho]
 by_cases h1 : j < n
 ·rw [if_pos h1, if_pos h1, if_pos (by omega)]
 ·rw [if_neg h1, if_neg h1]
theorem splice_cut {C vs : List Value} {off : Nat} (h : off ≤ C.length) : (splice C off vs).take (off + vs.length) = C.take off ++ vs := by
 unfold splice
 rw [List.take_append_of_le_length (by rw [List.length_append, List.length_take]; omega)]
 rw [List.take_of_length_le (by rw [List.length_append, List.length_take]; omega)]
theorem set_same {α : Type} {L : List α} {k : Nat} {p : α} (h : L[k]? = some p) : L.set k p = L := by
 apply List.ext_getElem?
 intro j
 rw [List.getElem?_set]
 by_cases hj : k = j
 ·subst hj
  rw [if_pos rfl, if_pos (List.getElem?_eq_some_iff.1 h).1, h]
 ·rw [if_neg hj]
theorem ins_list {C xs ys : List Value} {i n m : Nat} (hn : xs.length = n) (hm : ys.length = m) (hi : i ≤ n) (hC : n + m ≤ C.length) (hp : C.take i = xs.take i) :
  (splice (splice C (i + m) (xs.drop i)) i ys).take (n + m) = xs.take i ++ ys ++ xs.drop i ∧ (splice (splice C i ys) (i + m) (xs.drop i)).take (n + m) = xs.take i ++ ys ++ xs.drop i := by
 have hd : (xs.drop i).length = n - i := by rw [List.length_drop, hn]
 have hti : (xs.take i).length = i := by rw [List.length_take]; omega
 have hCi : ∀ j, j < i → C[j]? = (xs.take i)[j]? := fun j hj => by rw [← hp, List.getElem?_take, if_pos hj]
 have key : ∀ j, (xs.take i ++ ys ++ xs.drop i)[j]? = if j < i then C[j]? else if j < i + m then ys[j - i]? else if j < n + m then (xs.drop i)[j - (i + m)]? else none := fun j => by
  by_cases h1 : j < i
  ·rw [if_pos h1, List.append_assoc, List.getElem?_append_left (by omega), hCi j h1]
  ·rw [if_neg h1]
   by_cases h2 : j < i + m
   ·rw [if_pos h2, List.getElem?_append_left (by rw [List.length_append]; omega), List.getElem?_append_right (by omega), hti]
   ·rw [if_neg h2, List.getElem?_append_right (by rw [List.length_append]; omega), List.length_append, hti, hm]
    by_cases h3 : j < n + m
    ·rw [if_pos h3]
    ·rw [if_neg h3, List.getElem?_eq_none (by omega)]
 constructor
 ·apply List.ext_getElem?
  intro j
  rw [key, List.getElem?_take, splice_get (by rw [splice_length (by omega)]; omega), splice_get (by omega), hd, hm]
  by_cases h3 : j < n + m
  ·rw [if_pos h3]
   by_cases h1 : j < i
   ·rw [if_pos h1, if_pos h1, if_pos (by omega)]
   ·rw [if_neg h1, if_neg h1]
    by_cases h2 : j < i + m
    ·rw [if_pos h2, if_pos h2]
    ·rw [if_neg h2, if_neg h2, if_neg h2, if_pos (by omega), if_pos h3]
  ·rw [if_neg h3, if_neg (by omega), if_neg (by omega), if_neg h3]
 ·apply List.ext_getElem?
  intro j
  rw [key, List.getElem?_take, splice_get (by rw [splice_length (by omega)]; omega), splice_get (by omega), hd, hm]
  by_cases h3 : j < n + m
  ·rw [if_pos h3]
   by_cases h1 : j < i
   ·rw [if_pos (by omega), if_pos h1, if_pos h1]
   ·by_cases h2 : j < i + m
    ·rw [if_pos h2, if_neg h1, if_pos h2, if_neg h1, if_pos h2]
    ·rw [if_neg h2, if_pos (by omega), if_neg h1, if_neg h2, if_pos h3]
  ·rw [if_neg h3, if_neg (by omega), if_neg (by omega), if_neg h3]
section
variable {Γ : Cx} {ops : Array Oper} {rest : List Oper} {ρ : Nat → Value} {I : Mem} {L : List HP} {Q : Post} {ty : TypeId} {ps : String} {af : Array Edge}
theorem Val.cap {t e n len cap : Nat} {a : Option Addr} {x : Operand} [hk : SlK Γ.P t e n] (hx : ev ρ x = .slice a len cap) : Val Γ ρ I L (.call { callee := .builtin .cap, args := #[x], argTypes := #[t] }) ty (vi cap) :=
 fun w _ => by
  obtain ⟨hu, _⟩ := SlK.und hk.is
  simp only [execOp, resolve, List.map_toArray, List.map_cons, List.map_nil, hx, pure_bind, invoke, builtin, Builtin.cap_]
  simp [Sem.run_bind, run_underlying hu, goInt]
theorem WL.copyRd {d t e g o dn dc n c b off bt : Nat} {x y : Operand} {cs ys : List Value} (k : Nat) [hk : SlK Γ.P t e 1] (hx : ev ρ x = .slice (some ⟨g, o, none⟩) dn dc) (hL : L[k]? = some (Sl.box g bt cs)) (hy : ev ρ y = .slice (some ⟨b, off, none⟩) n c)
  (hr : Rd I L b off ys) (hn : ys.length = Nat.min n dn) (h1 : ys.all Value.oneCell' = true) (hfit : o + ys.length ≤ cs.length) (hd : Nat.blt d Γ.n = true)
  (next : WL Γ ops rest (upd ρ d (.int .i64 ys.length)) I (L.set k (Sl.box g bt (splice cs o ys))) Q) :
  WL Γ ops ({ dst := some d, op := .call { callee := .builtin .copy, args := #[x, y], argTypes := #[t, t] }, type := ty, pos := ps, after := af, guard := none } :: rest) ρ I L Q :=
 WL.eff (fun w hw => by
  obtain ⟨hu, ie, hie, hsz⟩ := SlK.und hk.is
  have hg := hw.lookK hL
  have := run_copy_row (P := Γ.P) w t t ty e g o dn dc ⟨b, off, none⟩ n c cs.toArray bt ys hu (by rw [hie]; simp [hsz]) hg hn (fun j u hj => by
   rw [addr_add]; exact hr Γ.E w hw j u hj) (by simpa using hfit) (fun v hv => List.all_eq_true.1 h1 v hv)
  refine ⟨_, ?_, setRow_sat hw hL (splice cs o ys)⟩
  simp only [execOp, resolve, List.map_toArray, List.map_cons, List.map_nil, hx, hy, pure_bind, invoke, builtin, Sem.run_bind, this, Result.andThen_ok]
  simp [splice, goInt]) hd next
theorem WL.clearB {t e g o n c bt : Nat} {x : Operand} {cs : List Value} {z : Value} (k : Nat) [hk : SlK Γ.P t e 1] [hz : ZeroK Γ.P e [z]] (hx : ev ρ x = .slice (some ⟨g, o, none⟩) n c) (hL : L[k]? = some (Sl.box g bt cs)) (h1 : z.oneCell' = true) (hfit : o + n ≤ cs.length)
  (next : WL Γ ops rest ρ I (L.set k (Sl.box g bt (splice cs o (List.replicate n z)))) Q) :
  WL Γ ops ({ dst := none, op := .call { callee := .builtin .clear, args := #[x], argTypes := #[t] }, type := ty, pos := ps, after := af, guard := none } :: rest) ρ I L Q := by
 intro a w ha hw
 simp only [wpList, Region.wanted, if_true]
 refine .inl ?_
 unfold Oper.wp
 obtain ⟨hu, ie, hie, hsz⟩ := SlK.und hk.is
 obtain ⟨z', hz1, hz2⟩ := ZeroK.run hz.is w
 have hg := hw.lookK hL
 have hzc : (Builtin.zeroCells z'.cells n).toList = List.replicate n z := by
  rw [hz2]
  simp [Builtin.zeroCells]
  apply List.ext_getElem
  ·simp
  ·intro i h1 h2
   simp [Nat.mod_one]
 have hst := run_storeCells_at Γ.P g o bt (List.replicate n z) 0 cs.toArray w hg (by simpa using hfit) (by intro v hv'; rw [List.eq_of_mem_replicate hv']; exact h1)
 have hr : (execOp (ev ρ) { dst := none, op := .call { callee := .builtin .clear, args := #[x], argTypes := #[t] }, type := ty, pos := ps, after := af, guard := none }).run Γ.P w = .ok (.value (.tuple #[])) (w.setRow g (splice cs o (List.replicate n z)).toArray) := by
  simp only [execOp, resolve, List.map_toArray, List.map_cons, List.map_nil, hx, pure_bind, invoke, builtin]
  cases n with
  | zero =>
   have h0 := setRow_self w g cs.toArray bt (0, 0) hg
   simp [Builtin.clear_, run_underlying hu, splice, Sem.run_bind]
   simpa using h0.symm
  | succ n =>
   simp only [Nat.add_zero] at hst
   simp [Builtin.clear_, run_underlying hu, hz1, hzc, hst, Sem.run_bind, splice]
 rw [ha.ev, hr]
 exact next _ _ ha (setRow_sat hw hL _)
theorem WL.appZeros {d t tn e g i cap q bt : Nat} {s x : Operand} {cs : List Value} {z : Value} (k : Nat) [hk : SlK Γ.P t e 1] [hi : IntK Γ.P tn .i64] [hz : ZeroK Γ.P e [z]] [hb : BytK Γ.P e 8]
  (hs : ev ρ s = .slice (some ⟨g, 0, none⟩) i cap) (hL : L[k]? = some (Sl.box g bt cs)) (hx : ev ρ x = .int .i64 (q : Int)) (hi' : i ≤ cs.length) (h0 : 0 < q) (hg : cap < i + q) (hbd : i + q ≤ 1099511627776) (hd : Nat.blt d Γ.n = true)
  (next : ∀ g2 cap2, i + q ≤ cap2 → cap2 ≤ maxLen → WL Γ ops rest (upd ρ d (.slice (some ⟨g2, 0, none⟩) (i + q) cap2)) I (L ++ [Sl.box g2 e (cs.take i ++ List.replicate q z ++ List.replicate (cap2 - (i + q)) z)]) Q) :
  WL Γ ops ({ dst := some d, op := .call { callee := .builtin .append, args := #[s, x], argTypes := #[t, tn] }, type := ty, pos := ps, after := af, guard := none } :: rest) ρ I L Q :=
 WL.effX (fun w hw => by
  obtain ⟨hu, ie, hie, hn⟩ := SlK.und hk.is
  obtain ⟨j, z', hj, hz1, hz2⟩ := zero_cells hz.is
  have hii : ie = j := by rw [hj] at hie; exact (Option.some.inj hie).symm
  subst hii
  have hby : ie.bytes = 8 := by have := hb.is; rw [hj] at this; simpa using this
  have hg' := hw.lookK hL
  have hzc : ∀ n, Builtin.zeroCells z'.cells n = (List.replicate n z).toArray := fun n => by
   apply Array.ext'
   rw [hz2]
   simp [Builtin.zeroCells]
   apply List.ext_getElem
   ·simp
   ·intro i h1 h2
    simp [Nat.mod_one]
  have hrun := run_append_zeros_grow (P := Γ.P) w t tn ty e ie z' .i64 .i64 hu hi.is hj hz1 ⟨g, 0, none⟩ i cap (cs.take i) (by rw [List.length_take, hn, Nat.mul_one]; exact Nat.min_eq_left hi')
   (fun j v hjv => by
    rw [addr_add, Nat.zero_add]
    rw [List.getElem?_take] at hjv
    split at hjv
    ·simpa [World.cell?, hg'] using hjv
    ·cases hjv) q h0 (by omega) hg (by omega) (by rw [hby]; omega) (by rw [hby]; exact growslice_fits (by omega) (by omega))
  have hle := grownCap_ge w (i + q) cap e
  have hml := grownCap_le_maxLen w (i + q) cap e (by unfold maxLen; omega)
  refine ⟨_, _, I, _, ?_, hw.drew.alloc (.cells (cs.take i ++ List.replicate q z ++ List.replicate (grownCap w (i + q) cap e - (i + q)) z).toArray e (0, 0)), next _ _ hle hml⟩
  simp only [execOp, resolve, List.map_toArray, List.map_cons, List.map_nil, hs, hx, pure_bind, invoke, builtin, Sem.run_bind, hrun, Result.andThen_ok, hzc]
  simp only [List.append_toArray]
  rfl) hd
theorem Sat.neLt {E : Ev} {w : World} {b b' : Nat} {o o' : Obj} (j k : Nat) (hj : L[j]? = some (pt b o)) (hk : L[k]? = some (pt b' o')) (hjk : j < k) (h : Sat E w I L) : b ≠ b' := by
 intro e
 subst e
 have hp := h.perm (pull k L _ hk)
 have hj' : (L.eraseIdx k)[j]? = some (pt b o) := by rw [List.getElem?_eraseIdx_of_lt hjk]; exact hj
 have hp2 := hp.perm ((pull j (L.eraseIdx k) _ hj').cons _)
 obtain ⟨m, a, d, m1, m2, e1, e2, e3, h1, m3, m4, e4, e5, e6, h2, h3⟩ := hp2.own
 have hb1 : m1 b = some o' := h1
 have hb2 : m2 b = some o := e4 _ _ h2
 rcases e3 b with h | h
 ·rw [hb1] at h; cases h
 ·rw [hb2] at h; cases h
theorem Sat.ne {E : Ev} {w : World} {b b' : Nat} {o o' : Obj} (j k : Nat) (hj : L[j]? = some (pt b o)) (hk : L[k]? = some (pt b' o')) (hjk : j ≠ k) (h : Sat E w I L) : b ≠ b' := by
 rcases Nat.lt_or_gt_of_ne hjk with q | q
 ·exact h.neLt j k hj hk q
 ·exact (h.neLt k j hk hj q).symm
class OvK (P : Program) (f : FuncId) (t : outParam Nat) : Prop where
 is : ∃ fn tr, P.funcs[f]? = some fn ∧ (fn.name == "runtime.NumGoroutine") = false ∧ fn.body.isNone = true ∧ Extern.findNext fn = none ∧ Extern.find fn = some (Extern.SlicesOverlaps.overlaps #[t, t] #[tr])
theorem Val.overlaps {f : FuncId} {t e sz g o la ca g' o' lb cb bt bt' : Nat} {x y fx : Operand} {ats : Array TypeId} {cs cs' : List Value} (j k : Nat) [hf : OvK Γ.P f t] [hk : SlK Γ.P t e sz]
  (hfx : ev ρ fx = .func (.func f) #[] #[]) (hx : ev ρ x = .slice (some ⟨g, o, none⟩) la ca) (hy : ev ρ y = .slice (some ⟨g', o', none⟩) lb cb) (hL : L[j]? = some (Sl.box g bt cs)) (hL' : L[k]? = some (Sl.box g' bt' cs')) (hjk : j ≠ k) (hc : 0 < cs'.length) :
  Val Γ ρ I L (.call { callee := .value fx, args := #[x, y], argTypes := ats }) ty (.bool false) := fun w hw => by
 obtain ⟨fn, tr, h1, h2, h3, h4, h5⟩ := hf.is
 obtain ⟨hu, ie, hie, hn⟩ := SlK.und hk.is
 have hs : ∀ w, (sizeOf e).run Γ.P w = .ok sz w := fun w => by rw [run_sizeOf w hie]; simp [Program.cellsOf, hie, hn]
 have hg := hw.lookK hL
 have hg' := hw.lookK hL'
 have hne := hw.ne j k hL hL' hjk
 have hrun := Lib.run_overlaps_apart (P := Γ.P) w t tr e hu sz hs ⟨g, o, none⟩ ⟨g', o', none⟩ la ca lb cb hne bt bt' cs.length cs'.length (by simp [World.shape?, hg]) (by simp [World.shape?, hg']) (by omega) (by simp [World.frozen?, hg]) (by simp [World.frozen?, hg])
 simp only [execOp, resolve, hfx, Deferred.ofValue, pure_bind, invoke, List.map_toArray, List.map_cons, List.map_nil, List.append_toArray, List.nil_append, List.append_nil]
 have h6 := run_callFunc_extern (P := Γ.P) h1 h2 h3 h4 h5 #[.slice (some ⟨g, o, none⟩) la ca, .slice (some ⟨g', o', none⟩) lb cb] w
 rw [hrun] at h6
 simp only [hx, hy]
 exact h6
theorem Val.sliceTo {t e n len cap m b off : Nat} {x hi : Operand} [hk : SlK Γ.P t e n] (hx : ev ρ x = .slice (some ⟨b, off, none⟩) len cap) (hl : ev ρ hi = .int .i64 (m : Int)) (h1 : m ≤ cap) : Val Γ ρ I L (.slice t x none (some hi) none) ty (.slice (some ⟨b, off, none⟩) m cap) := by
 have := Val.slice (Γ := Γ) (I := I) (L := L) (ty := ty) (t := t) (e := e) (n := n) (hk := hk) (l := 0) (h := m) hx (.none _) (.some (e := (m : Int)) hl (Int.natCast_nonneg m)) (Nat.zero_le _) h1
 rw [Option.map_some, addr_add, Nat.zero_mul, Nat.add_zero, Nat.sub_zero, Nat.sub_zero, ite_self] at this
 exact this
theorem WL.slOut {e sz n cap g : Nat} {xs : List Value} (k : Nat) (hL : L[k]? = some (sl e sz (.slice (some ⟨g, 0, none⟩) n cap) n xs)) (next : ∀ cs : List Value, cs.length = cap * sz → cs.take (n * sz) = xs → n ≤ cap → cap ≤ maxLen → WL Γ ops rest ρ I (L.set k (Sl.box g e cs)) Q) : WL Γ ops rest ρ I L Q := fun a w ha hw => by
 obtain ⟨cs, h1, h2, h3, h4, h5⟩ := hw.slOut k hL
 exact next cs h1 h2 h3 h4 a w ha h5
theorem WX.slIn {c : Exit} {e sz n cap g : Nat} {cs xs : List Value} {L' : List HP} (k : Nat) (hL : L[k]? = some (Sl.box g e cs)) (h1 : cs.length = cap * sz) (h2 : n ≤ cap) (h3 : cap ≤ maxLen) (h4 : cs.take (n * sz) = xs) [hS : SetL L k (sl e sz (.slice (some ⟨g, 0, none⟩) n cap) n xs) L']
  (next : WX Γ c ρ I L' Q) : WX Γ c ρ I L Q := fun a w ha hw => next a w ha (by
 have := hw.slIn (sz := sz) k hL h1 h2 h3
 rw [h4] at this
 exact hS.is ▸ this)
theorem WC.slOpen {c : Code} {e sz n : Nat} {v : Value} {xs : List Value} (k : Nat) (hL : L[k]? = some (sl e sz v n xs)) (next : ∀ aa cap, v = .slice aa n cap → (0 < n → ∃ g, aa = some ⟨g, 0, none⟩) → n ≤ cap → WC Γ c ρ I L Q) : WC Γ c ρ I L Q := fun a w ha hw => by
 obtain ⟨m, hm, h1, h2⟩ := (hw.perm (pull k L _ hL)).head
 rcases h2 with ⟨rfl, rfl⟩ | ⟨g, cap, cur, hv, _, hc, _⟩
 ·exact next _ _ rfl (fun h => by omega) (Nat.zero_le _) a w ha hw
 ·exact next _ _ hv (fun _ => ⟨g, rfl⟩) hc a w ha hw
theorem WL.appRoom {d t e g i sc m c b off bt : Nat} {s x : Operand} {cs ys : List Value} (k : Nat) [hk : SlK Γ.P t e 1]
  (hs : ev ρ s = .slice (some ⟨g, 0, none⟩) i sc) (hL : L[k]? = some (Sl.box g bt cs)) (hx : ev ρ x = .slice (some ⟨b, off, none⟩) m c) (hr : Rd I L b off ys) (hy : ys.length = m) (h1 : ys.all Value.oneCell' = true) (hroom : i + m ≤ sc) (hsc : cs.length = sc) (hd : Nat.blt d Γ.n = true)
  (next : WL Γ ops rest (upd ρ d (.slice (some ⟨g, 0, none⟩) (i + m) sc)) I (L.set k (Sl.box g bt (splice cs i ys))) Q) :
  WL Γ ops ({ dst := some d, op := .call { callee := .builtin .append, args := #[s, x], argTypes := #[t, t] }, type := ty, pos := ps, after := af, guard := none } :: rest) ρ I L Q :=
 WL.eff (fun w hw => by
  obtain ⟨hu, ie, hie, hn⟩ := SlK.und hk.is
  have hg := hw.lookK hL
  have hf := run_firstCells_some (P := Γ.P) (w := w) ie.size m ⟨b, off, none⟩ m c ys (by rw [hn, hy, Nat.mul_one]) (fun j v hj => by rw [addr_add]; exact hr Γ.E w hw j v hj)
  have hst := run_storeCells_at Γ.P g i bt ys 0 cs.toArray w hg (by simp; omega) (fun v hv => List.all_eq_true.1 h1 v hv)
  refine ⟨_, ?_, setRow_sat hw hL (splice cs i ys)⟩
  have hrun : (Builtin.append_ #[t, t] ty #[.slice (some ⟨g, 0, none⟩) i sc, .slice (some ⟨b, off, none⟩) m c]).run Γ.P w = .ok (.slice (some ⟨g, 0, none⟩) (i + m) sc) (w.setRow g (splice cs i ys).toArray) := by
   simp only [Nat.add_zero] at hst
   simp [Builtin.append_, run_underlying hu, sizeOf, typeInfo, hie, hn, Builtin.lenOf, hroom, addr_add, splice]
   rw [hn] at hf
   simp only [hf, Result.andThen_ok, hst]
   simp
  simp only [execOp, resolve, List.map_toArray, List.map_cons, List.map_nil, hs, hx, pure_bind, invoke, builtin, Sem.run_bind, hrun, Result.andThen_ok]
  rfl) hd next
theorem Val.sliceFrom2 {t e n len cap m b off : Nat} {x lo : Operand} [hk : SlK Γ.P t e n] (hx : ev ρ x = .slice (some ⟨b, off, none⟩) len cap) (hl : ev ρ lo = .int .i64 (m : Int)) (h1 : m ≤ len) (h2 : len ≤ cap) : Val Γ ρ I L (.slice t x (some lo) none none) ty (.slice (some ⟨b, if cap = m then off else off + m * n, none⟩) (len - m) (cap - m)) := by
 have := Val.slice (Γ := Γ) (I := I) (L := L) (ty := ty) (t := t) (e := e) (n := n) (hk := hk) (l := m) (h := len) hx (.some (e := (m : Int)) hl (Int.natCast_nonneg m)) (.none _) h1 h2
 by_cases hq : cap = m
 ·rw [if_pos hq] at this ⊢; exact this
 ·rw [if_neg hq, Option.map_some, addr_add] at this; rw [if_neg hq]; exact this
theorem Val.sliceMid {t e n len cap l h b off : Nat} {x lo hi : Operand} [hk : SlK Γ.P t e n] (hx : ev ρ x = .slice (some ⟨b, off, none⟩) len cap) (hl : ev ρ lo = .int .i64 (l : Int)) (hh : ev ρ hi = .int .i64 (h : Int)) (h1 : l ≤ h) (h2 : h ≤ cap) : Val Γ ρ I L (.slice t x (some lo) (some hi) none) ty (.slice (some ⟨b, if cap = l then off else off + l * n, none⟩) (h - l) (cap - l)) := by
 have := Val.slice (Γ := Γ) (I := I) (L := L) (ty := ty) (t := t) (e := e) (n := n) (hk := hk) (l := l) (h := h) hx (.some (e := (l : Int)) hl (Int.natCast_nonneg l)) (.some (e := (h : Int)) hh (Int.natCast_nonneg h)) h1 h2
 by_cases hq : cap = l
 ·rw [if_pos hq] at this ⊢; exact this
 ·rw [if_neg hq, Option.map_some, addr_add] at this; rw [if_neg hq]; exact this
theorem Val.slice3L {t e n len cap l h m : Nat} {a : Option Addr} {x lo hi mx : Operand} [hk : SlK Γ.P t e n] (hx : ev ρ x = .slice a len cap) (hl : ev ρ lo = .int .i64 (l : Int)) (hh : ev ρ hi = .int .i64 (h : Int)) (hm : ev ρ mx = .int .i64 (m : Int)) (h0 : l ≤ h) (h1 : h ≤ m) (h2 : m ≤ cap) :
  Val Γ ρ I L (.slice t x (some lo) (some hi) (some mx)) ty (.slice (if m = l then a else a.map (·.add (l * n))) (h - l) (m - l)) :=
 fun w _ => by
  obtain ⟨hu, ie, hie, hn⟩ := SlK.und hk.is
  have hs : (sizeOf e).run Γ.P w = .ok n w := by rw [run_sizeOf w hie]; simp [Program.cellsOf, hie, hn]
  have r1 := run_sliceBound (P := Γ.P) (k := .i64) (e := (m : Int)) (Int.natCast_nonneg m) (y := cap) h2
  have r2 := run_sliceBound (P := Γ.P) (k := .i64) (e := (h : Int)) (Int.natCast_nonneg h) (y := m) h1
  have r3 := run_sliceBound (P := Γ.P) (k := .i64) (e := (l : Int)) (Int.natCast_nonneg l) (y := h) h0
  simp only [Int.toNat_natCast] at r1 r2 r3
  have hb : (Instr.sliceBounds true len cap (Option.map (ev ρ) (some lo)) (Option.map (ev ρ) (some hi)) (Option.map (ev ρ) (some mx))).run Γ.P w = .ok (l, h, m) w := by
   simp only [Instr.sliceBounds, Option.map_some, hl, hh, hm, pure_bind, Sem.run_bind, r1, r2, r3, Result.andThen_ok]; rfl
  simp only [execOp, Instr.sliceAt, hx, Sem.run_bind, run_underlying hu, Result.andThen_ok, Instr.slice, hb, hs]
  rfl
theorem WL.slCases {e sz n : Nat} {v : Value} {xs : List Value} (k : Nat) (hL : L[k]? = some (sl e sz v n xs)) (next1 : v = .slice none 0 0 → n = 0 → xs = [] → WL Γ ops rest ρ I L Q) (next2 : ∀ g cap, v = .slice (some ⟨g, 0, none⟩) n cap → WL Γ ops rest ρ I L Q) : WL Γ ops rest ρ I L Q := fun a w ha hw => by
 obtain ⟨m, hm, h1, h2⟩ := (hw.perm (pull k L _ hL)).head
 rcases h2 with ⟨rfl, rfl⟩ | ⟨g, cap, cur, hv, _, hc, _⟩
 ·exact next1 rfl rfl (List.eq_nil_of_length_eq_zero (by simpa using h1)) a w ha hw
 ·exact next2 _ _ hv a w ha hw
theorem splice_nil (cs : List Value) (o : Nat) : splice cs o [] = cs := by simp [splice]
theorem WL.copySl {d t e e' g o dn dc m bt : Nat} {x y : Operand} {v : Value} {cs ys : List Value} (k j : Nat) [hk : SlK Γ.P t e 1] (hx : ev ρ x = .slice (some ⟨g, o, none⟩) dn dc) (hL : L[k]? = some (Sl.box g bt cs)) (hy : ev ρ y = v) (hj : L[j]? = some (sl e' 1 v m ys)) (hl : ys.length = m)
  (hm : m ≤ dn) (h1 : ys.all Value.oneCell' = true) (hfit : o + m ≤ cs.length) (hd : Nat.blt d Γ.n = true)
  (next : WL Γ ops rest (upd ρ d (.int .i64 m)) I (L.set k (Sl.box g bt (splice cs o ys))) Q) :
  WL Γ ops ({ dst := some d, op := .call { callee := .builtin .copy, args := #[x, y], argTypes := #[t, t] }, type := ty, pos := ps, after := af, guard := none } :: rest) ρ I L Q :=
 WL.slCases j hj (fun h2 h3 h4 => by
  subst h2 h3 h4
  rw [splice_nil, set_same hL] at next
  refine WL.val (fun w hw => ?_) hd next
  obtain ⟨hu, ie, hie, hsz⟩ := SlK.und hk.is
  have := run_copy_nil (P := Γ.P) w t t ty e ⟨g, o, none⟩ dn dc hu (by rw [hie]; rfl)
  simp only [execOp, resolve, List.map_toArray, List.map_cons, List.map_nil, hx, hy, pure_bind, invoke, builtin, Sem.run_bind, this, Result.andThen_ok]
  rfl) (fun b c h2 => by
  subst h2
  subst hl
  exact WL.copyRd k hx hL hy (Rd.slN j hj 0 ys (fun q u h => by rw [Nat.zero_add]; exact h)) (Nat.min_eq_left hm).symm h1 hfit hd next)
theorem WL.appRoomSl {d t e e' g i sc m bt : Nat} {s x : Operand} {v : Value} {cs ys : List Value} (k j : Nat) [hk : SlK Γ.P t e 1]
  (hs : ev ρ s = .slice (some ⟨g, 0, none⟩) i sc) (hL : L[k]? = some (Sl.box g bt cs)) (hx : ev ρ x = v) (hj : L[j]? = some (sl e' 1 v m ys)) (hy : ys.length = m) (h1 : ys.all Value.oneCell' = true) (hroom : i + m ≤ sc) (hsc : cs.length = sc) (hd : Nat.blt d Γ.n = true)
  (next : WL Γ ops rest (upd ρ d (.slice (some ⟨g, 0, none⟩) (i + m) sc)) I (L.set k (Sl.box g bt (splice cs i ys))) Q) :
  WL Γ ops ({ dst := some d, op := .call { callee := .builtin .append, args := #[s, x], argTypes := #[t, t] }, type := ty, pos := ps, after := af, guard := none } :: rest) ρ I L Q :=
 WL.slCases j hj (fun h2 h3 h4 => by
  subst h2 h3 h4
  rw [splice_nil, set_same hL, Nat.add_zero] at next
  refine WL.val (fun w hw => ?_) hd next
  obtain ⟨hu, ie, hie, hsz⟩ := SlK.und hk.is
  have hrun : (Builtin.append_ #[t, t] ty #[.slice (some ⟨g, 0, none⟩) i sc, .slice none 0 0]).run Γ.P w = .ok (.slice (some ⟨g, 0, none⟩) i sc) w :=
   run_append_nothing w t t ty e ie hu hie (some ⟨g, 0, none⟩) i sc (by omega) _ (Src.ofNil w hu 0)
  simp only [execOp, resolve, List.map_toArray, List.map_cons, List.map_nil, hs, hx, pure_bind, invoke, builtin, Sem.run_bind, hrun, Result.andThen_ok]
  rfl) (fun b c h2 => by
  subst h2
  exact WL.appRoom k hs hL hx (Rd.slN j hj 0 ys (fun q u h => by rw [Nat.zero_add]; exact h)) hy h1 hroom hsc hd next)
theorem WL.slIn {e sz n cap g : Nat} {cs xs : List Value} {L' : List HP} (k : Nat) (hL : L[k]? = some (Sl.box g e cs)) (h1 : cs.length = cap * sz) (h2 : n ≤ cap) (h3 : cap ≤ maxLen) (h4 : cs.take (n * sz) = xs) [hS : SetL L k (sl e sz (.slice (some ⟨g, 0, none⟩) n cap) n xs) L']
  (next : WL Γ ops rest ρ I L' Q) : WL Γ ops rest ρ I L Q := fun a w ha hw => next a w ha (by
 have := hw.slIn (sz := sz) k hL h1 h2 h3
 rw [h4] at this
 exact hS.is ▸ this)
end
end Go.Sl

namespace Go.Sl
open Go.Ls
section
variable {Γ : Cx} {ops : Array Oper} {rest : List Oper} {ρ : Nat → Value} {I : Mem} {L : List HP} {Q : Post} {ty : TypeId} {ps : String} {af : Array Edge}
theorem Sat.rowBack {E : Ev} {w : World} {M : List HP} {p q : HP} (k i : Nat) (hL : L[k]? = some (sts M)) (hM : M[i]? = some p) (h : Sat E w I (q :: L.set k (sts (M.eraseIdx i)))) : Sat E w I (L.set k (sts (M.set i q))) := by
 have hlt : k < L.length := (List.getElem?_eq_some_iff.1 hL).1
 have hi : i < M.length := (List.getElem?_eq_some_iff.1 hM).1
 have := h.rowIn (M := M) (p := q) k i (by simp [hlt]) hi
 rw [List.set_set] at this
 exact this
theorem WL.callRowK {d : Nat} {f : FuncId} {x : Operand} {args : List Operand} {ats : Array TypeId} {fs cp vs : List Value} {M : List HP} {p : HP} {S : Value → Prop} (k i : Nat) [hf : FnK Γ.P f]
  (hx : ev ρ x = .func (.func f) fs.toArray cp.toArray) (hv : fs ++ args.map (ev ρ) ++ cp = vs) (hL : L[k]? = some (sts M)) (hM : M[i]? = some p) (hc : Ctr Γ.P f vs I [p] (Keep I [p] S)) (hd : Nat.blt d Γ.n = true)
  (next : ∀ v, S v → WL Γ ops rest (upd ρ d v) I L Q) :
  WL Γ ops ({ dst := some d, op := .call { callee := .value x, args := args.toArray, argTypes := ats }, type := ty, pos := ps, after := af, guard := none } :: rest) ρ I L Q :=
 WL.conv (fun w hw => hw.rowOut k i hL hM) (WL.callK [0] hx hv rfl hc hd fun v hS a w ha hw => next v hS a w ha (by
  have := hw.rowBack k i hL hM
  rw [set_same hM, set_same hL] at this
  exact this))
theorem WL.callRow {d : Nat} {f : FuncId} {x : Operand} {args : List Operand} {ats : Array TypeId} {fs cp vs : List Value} {M : List HP} {p : HP} {R : Value → Mem → List HP → Prop} (k i : Nat) [hf : FnK Γ.P f]
  (hx : ev ρ x = .func (.func f) fs.toArray cp.toArray) (hv : fs ++ args.map (ev ρ) ++ cp = vs) (hL : L[k]? = some (sts M)) (hM : M[i]? = some p) (hc : Ctr Γ.P f vs I [p] R) (hd : Nat.blt d Γ.n = true)
  (next : ∀ v I' q, I.le I' → R v I' [q] → WL Γ ops rest (upd ρ d v) I' (L.set k (sts (M.set i q))) Q) (hone : ∀ v I' L', R v I' L' → ∃ q, L' = [q]) :
  WL Γ ops ({ dst := some d, op := .call { callee := .value x, args := args.toArray, argTypes := ats }, type := ty, pos := ps, after := af, guard := none } :: rest) ρ I L Q :=
 WL.conv (fun w hw => hw.rowOut k i hL hM) (WL.call [0] hx hv rfl hc hd fun v I' L' hI hR => by
  obtain ⟨q, rfl⟩ := hone v I' L' hR
  exact fun a w ha hw => next v I' q hI hR a w ha ((hw.perm List.perm_append_comm).rowBack k i hL hM))
end
end Go.Sl

namespace Go.Sl
open Go.Ls
section
variable {Γ : Cx} {ops : Array Oper} {rest : List Oper} {ρ : Nat → Value} {I : Mem} {L : List HP} {Q : Post} {ty : TypeId} {ps : String} {af : Array Edge}
theorem Sat.tail {E : Ev} {w : World} {p : HP} (h : Sat E w I (p :: L)) : Sat E w I L := h.imp fun m ⟨m1, m2, a, b, c, d, e⟩ => sts_mono e b
theorem Sat.rowNil {E : Ev} {w : World} {M : List HP} {p : HP} {e sz : Nat} (k i : Nat) (hL : L[k]? = some (sts M)) (hM : M[i]? = some p) (h : Sat E w I L) : Sat E w I (L.set k (sts (M.set i (sl e sz (.slice none 0 0) 0 [])))) :=
 Sat.rowBack k i hL hM ((h.rowOut k i hL hM).tail.sl_nil (e := e) (sz := sz))
theorem WL.rowNil {M : List HP} {p : HP} (e sz k i : Nat) (hL : L[k]? = some (sts M)) (hM : M[i]? = some p) (next : WL Γ ops rest ρ I (L.set k (sts (M.set i (sl e sz (.slice none 0 0) 0 [])))) Q) : WL Γ ops rest ρ I L Q := fun a w ha hw => next a w ha (hw.rowNil k i hL hM)
theorem WL.rowTake {M L' : List HP} {p : HP} (k i : Nat) (hL : L[k]? = some (sts M)) (hM : M[i]? = some p) [hs : SetL L k (sts (M.eraseIdx i)) L'] (next : WL Γ ops rest ρ I (p :: L') Q) : WL Γ ops rest ρ I L Q := fun a w ha hw => next a w ha (hs.is ▸ hw.rowOut k i hL hM)
theorem WL.rowPut {M : List HP} {q : HP} (k i : Nat) (hL : L[k]? = some (sts (M.eraseIdx i))) (hi : i < M.length) (next : WL Γ ops rest ρ I (L.set k (sts (M.set i q))) Q) : WL Γ ops rest ρ I (q :: L) Q := fun a w ha hw => next a w ha (hw.rowIn k i hL hi)
theorem Sat.rowNew {E : Ev} {w : World} {M : List HP} {q : HP} (k : Nat) (hL : L[k]? = some (sts M)) (h : Sat E w I (q :: L)) : Sat E w I (L.set k (sts (M ++ [q]))) := by
 have h1 := h.perm ((pull k L _ hL).cons q)
 have h2 : Sat E w I (sts (q :: M) :: L.eraseIdx k) := h1.imp fun m ⟨m1, m2, a, b, c, d, e⟩ => by
  have h3 := sts_unfold e
  exact sts_fold (l := q :: M) ⟨m1, m2, a, b, c, d, h3⟩
 have h4 : Sat E w I (sts (M ++ [q]) :: L.eraseIdx k) := h2.imp fun m ⟨m1, m2, a, b, c, d, e⟩ => ⟨m1, m2, a, b, c, sts_perm (List.perm_append_comm (l₁ := [q])) d, e⟩
 exact h4.perm (push_back k L _ _ hL)
theorem WL.callAll {d : Nat} {f : FuncId} {x : Operand} {args : List Operand} {ats : Array TypeId} {fs cp vs : List Value} {F : HP} {LJ : List HP} {R : Value → Mem → List HP → Prop} [hf : FnK Γ.P f]
  (hx : ev ρ x = .func (.func f) fs.toArray cp.toArray) (hv : fs ++ args.map (ev ρ) ++ cp = vs) (hc : Ctr Γ.P f vs I LJ R) (hd : Nat.blt d Γ.n = true)
  (next : ∀ v I' L', I.le I' → R v I' L' → WL Γ ops rest (upd ρ d v) I' (F :: L') Q) :
  WL Γ ops ({ dst := some d, op := .call { callee := .value x, args := args.toArray, argTypes := ats }, type := ty, pos := ps, after := af, guard := none } :: rest) ρ I (F :: LJ) Q := by
 intro a w ha hw
 simp only [wpList, Region.wanted, if_true]
 refine .inl ?_
 unfold Oper.wp
 rw [ha.ev, run_call hf hx hv w]
 refine (hc Γ.E w _ hw).mono fun e w' ⟨v, I', L', he, hI, hw', hR⟩ => ?_
 subst he
 exact next v I' L' hI hR _ w' (ha.put hd v) hw'
theorem WX.doneF {fn : Func} {F : HP} {I0 : Mem} {L' : List HP} {v : Value} {R : Value → Mem → List HP → Prop} (hres : RunRes Γ fn ρ I (F :: L') v) (hI : I0.le I) (hR : R v I L') (hds : Γ.ds = [] := by rfl) :
  WX Γ .ret ρ I (F :: L') (bodyPost Γ.P fn (FnPost Γ.E F I0 R)) := fun a w ha hw => ⟨ha.defers.trans hds, v, hres a w ha hw, v, I, L', rfl, hI, hw, hR⟩
theorem WX.doneFN {fn : Func} {F : HP} {I0 : Mem} {L' : List HP} {v : Value} {R : Value → Mem → List HP → Prop} (hres : RunRes Γ fn ρ I (F :: L') v) (hI : I0.le I) (hR : R v I L') (hds : Γ.ds = [] := by rfl) :
  WX Γ .normal ρ I (F :: L') (bodyPost Γ.P fn (FnPost Γ.E F I0 R)) := fun a w ha hw => ⟨ha.defers.trans hds, v, hres a w ha hw, v, I, L', rfl, hI, hw, hR⟩
theorem WX.nSet {c : Exit} {A o : List HP} {k : Nat} {p : HP} [h : SetL A k p o] (next : WX Γ c ρ I o Q) : WX Γ c ρ I (A.set k p) Q := by rw [h.is]; exact next
end
end Go.Sl

namespace Go.Sl
open Go.Ls
def opNoDefer (o : Oper) : Bool := match o.op with | .defer _ => false | _ => true
theorem opNoDefer_spec {o : Oper} (h : opNoDefer o = true) : ∀ c, o.op ≠ .defer c := fun c e => by
 unfold opNoDefer at h; rw [e] at h; cases h
def noDefer (l : List Oper) : Bool := l.all opNoDefer
class NoOut (Q : Post) : Prop where
 no : ∀ a w, ¬ Q .outgrown a w
instance {P : Program} {fn : Func} {E : Ev} {F : HP} {I : Mem} {R : Value → Mem → List HP → Prop} : NoOut (bodyPost P fn (FnPost E F I R)) := ⟨fun a w h => by
 obtain ⟨v, I', L', he, _⟩ := h; cases he⟩
instance {K : Act → World → Prop} {Q : Post} [h : NoOut Q] : NoOut (Exit.then K Q) := ⟨fun a w => h.no a w⟩
instance {id : Nat} {Q : Post} [h : NoOut Q] : NoOut (Exit.inBlock id Q) := ⟨fun a w => h.no a w⟩
instance {P : Program} {l : Nat} {R : Ending → World → Prop} : NoOut (roundPost P l R) := ⟨fun a w h => h⟩
instance {K : Act → World → Prop} : NoOut (Exit.then K (fun _ _ _ => False)) := ⟨fun a w h => h⟩
instance {P : Program} {l : Nat} {R : Ending → World → Prop} : PF (roundPost P l R) := ⟨fun c a w h => h⟩
def bodyM (P : Program) (fn : Func) (R : Ending → World → Prop) : Post
 | .normal, a, w => LeavesInM Fence.wide 0 P fn a.tmps R a.defers .returning w
 | .ret, a, w => LeavesInM Fence.wide 0 P fn a.tmps R a.defers .returning w
 | _, _, _ => False
instance {P : Program} {fn : Func} {R : Ending → World → Prop} : PF (bodyM P fn R) := ⟨fun c a w h => h⟩
abbrev wide (ro : Option Nat) : Fence := { Fence.wide with round := ro }
theorem semAt_eq {ro : Option Nat} {ρ : Operand → Value} {o : Oper} (h : opNoDefer o = true) : Oper.semAt ro ρ o = execOp ρ o := by
 cases ro with
 | none => exact Oper.semAt_none ρ o
 | some l => exact Oper.semAt_some l ρ o (opNoDefer_spec h)
theorem Rows.toIn {ro : Option Nat} {P : Program} {row : String} {args : Array Value} {w : World} {R : Value → World → Prop} (h : Rows P row args w R) : RowsIn (wide ro) 0 P row args w R := fun c cs _ => by
 obtain ⟨v, w', r, s⟩ := h c cs
 exact ⟨v, w', r, stepsIn_wide.2 s⟩
section
variable {P : Program} {ops : Array Oper} {Q : Post} {ro : Option Nat}
theorem Oper.toIn (hq : ∀ a w, ¬ Q .outgrown a w) {o : Oper} (hd : opNoDefer o = true) {a : Act} {w : World} {K : Act → World → Prop} (h : o.wp P a w K Q) : o.wpIn (wide ro) 0 P a w K Q := by
 unfold Oper.wp at h
 refine ⟨fun _ _ => trivial, ?_⟩
 show o.uponIn (wide ro) 0 P a K Q ((o.semAt ro a.eval).run P w)
 rw [semAt_eq hd]
 generalize (execOp a.eval o).run P w = r at *
 cases r with
 | ok x w' =>
  cases x <;> simp only [Oper.upon] at h <;> simp only [Oper.uponIn]
  all_goals first
   | exact h
   | exact ⟨fun e => absurd e (by simp [Fence.wide]), (callsIn_wide.2 (h.mono fun e w'' he => by cases e <;> exact he) : CallsIn Fence.wide 0 P _ _ _ _)⟩
   | exact ⟨fun e => absurd e (by simp [Fence.wide]), Rows.toIn h⟩
 | halt x w' => cases x <;> simp only [Oper.upon] at h <;> simp only [Oper.uponIn] <;> exact h
theorem wpList_in (hq : ∀ a w, ¬ Q .outgrown a w) : ∀ (l : List Oper), noDefer l = true → ∀ (a : Act) (w : World), wpList P ops Q l a w → wpListIn (wide ro) 0 P ops Q l a w
 | [], _, a, w, h => h
 | o :: l, hd, a, w, h => by
  have hd' : opNoDefer o = true ∧ noDefer l = true := by simpa [noDefer] using hd
  simp only [wpList] at h
  simp only [wpListIn]
  by_cases hw : Region.wanted o (yielded ops a.tmps) = true
  ·rw [if_pos hw] at h ⊢
   rcases h with h | ⟨_, a', w', h⟩
   ·exact Oper.wpIn_mono (fun a w k => wpList_in hq l hd'.2 a w k) (Oper.toIn hq hd'.1 h)
   ·exact absurd h (hq a' w')
  ·rw [if_neg hw] at h ⊢
   exact ⟨fun _ _ => trivial, wpList_in hq l hd'.2 _ w h⟩
theorem wpOp_in (hq : ∀ a w, ¬ Q .outgrown a w) {i : Nat} (hd : ∀ o, ops[i]? = some o → opNoDefer o = true) {K : Act → World → Prop} {a : Act} {w : World} (h : wpOp P ops Q i K a w) : wpOpIn (wide ro) 0 P ops Q i K a w := by
 unfold wpOp at h
 unfold wpOpIn
 cases ho : ops[i]? with
 | none => rw [ho] at h; exact h
 | some o =>
  rw [ho] at h
  simp only at h ⊢
  by_cases hw : Region.wanted o (yielded ops a.tmps) = true
  ·rw [if_pos hw] at h ⊢
   rcases h with h | ⟨_, a', w', h⟩
   ·exact Oper.toIn hq (hd o ho) h
   ·exact absurd h (hq a' w')
  ·rw [if_neg hw] at h ⊢
   exact ⟨fun _ _ => trivial, h⟩
theorem wpAny_in (hq : ∀ a w, ¬ Q .outgrown a w) (hd : ∀ (i : Nat) o, ops[i]? = some o → opNoDefer o = true) : ∀ (n : Nat) (l : Array Bool) (a : Act) (w : World), wpAny P .any ops Q n l a w → wpAnyIn (wide ro) 0 P .any ops Q n l a w
 | 0, _, _, _, h => h
 | n + 1, l, a, w, h => ⟨h.1, fun i hi => wpOpIn_mono (fun a w k => wpAny_in hq hd n _ a w k) (wpOp_in hq (hd i) (h.2 i hi))⟩
end
theorem noDefer_spec {l : List Oper} (h : noDefer l = true) : ∀ (i : Nat) o, l.toArray[i]? = some o → opNoDefer o = true := fun i o hi =>
 List.all_eq_true.1 h o (List.mem_of_getElem? (by simpa using hi))
def WCI (Γ : Cx) (r : Nat) (c : Code) (ρ : Nat → Value) (I : Mem) (L : List HP) (Q : Post) : Prop := ∀ a w, Loc Γ.n Γ.ds ρ a → Sat Γ.E w I L → c.wpIn (wide (some r)) 0 Γ.P Q a w
section
variable {Γ : Cx} {ρ : Nat → Value} {I : Mem} {L : List HP} {Q : Post} {r : Nat}
theorem WCI.region {id : Nat} {l : List Oper} [hq : NoOut Q] (h : WL Γ l.toArray l ρ I L Q) (hd : noDefer l = true := by rfl) : WCI Γ r (.region id l.toArray false) ρ I L Q :=
 fun a w ha hw => wpIn_region_list (by simpa using wpList_in hq.no l hd a w (h a w ha hw))
theorem WCI.drawK {id : Nat} {lo : List Oper} {L0 : List HP} (z : Nat) (I0 : Mem) (ks : List Nat) {Lr : List HP} (hp : picks ks L = some (L0, Lr)) (hm : Γ.P.follows .mixedOrders = true) {n : Nat} {l : Array Bool} (hn : lo.toArray.size = n) (hl : Array.replicate n false = l) [hq : NoOut Q]
  (h : WA Γ lo.toArray Q z I0 L0 n l ρ I L) (hd : noDefer lo = true := by rfl) : WCI Γ r (.region id lo.toArray true) ρ I L Q :=
 fun a w ha hw => wpIn_region_any hm (wpAny_in hq.no (noDefer_spec hd) _ _ _ _ (anyT_any _ _ _ _ (by rw [hn, hl]; exact h a _ ha hw.drew)))
theorem j8I {id : Nat} {lo : List Oper} {L0 : List HP} (z : Nat) (ks : List Nat) {Lr : List HP} (hp : picks ks L = some (L0, Lr)) [hq : NoOut Q] (h : WB Γ lo.toArray Q z I L0 lo.toArray.size (Array.replicate lo.toArray.size false) ρ I L) (hm : Γ.P.follows .mixedOrders = true := by kernel_rfl) (hd : noDefer lo = true := by rfl) : WCI Γ r (.region id lo.toArray true) ρ I L Q :=
 WCI.drawK z I ks hp hm rfl rfl (h fun w h => h.sub ks hp) hd
theorem WCI.seq {x y : Code} (h : WCI Γ r x ρ I L (Exit.then (y.wpIn (wide (some r)) 0 Γ.P Q) Q)) : WCI Γ r (.seq x y) ρ I L Q := fun a w ha hw => wpIn_seq (h a w ha hw)
theorem WCI.skip (h : WX Γ .normal ρ I L Q) : WCI Γ r .skip ρ I L Q := fun a w ha hw => wpIn_skip (h a w ha hw)
theorem WCI.ret (h : WX Γ .ret ρ I L Q) : WCI Γ r .ret ρ I L Q := fun a w ha hw => wpIn_ret (h a w ha hw)
theorem WCI.block {id : Nat} {c : Code} (h : WCI Γ r c ρ I L (Exit.inBlock id Q)) : WCI Γ r (.block id c) ρ I L Q := fun a w ha hw => wpIn_block (h a w ha hw)
theorem WCI.condT {c : Operand} {x y : Code} (hc : ev ρ c = .bool true) (ht : WCI Γ r x ρ I L Q) : WCI Γ r (.cond c x y) ρ I L Q :=
 fun a w ha hw => wpIn_cond_true (by rw [ha.ev]; exact hc) (ht a w ha hw)
theorem WCI.condF {c : Operand} {x y : Code} (hc : ev ρ c = .bool false) (ht : WCI Γ r y ρ I L Q) : WCI Γ r (.cond c x y) ρ I L Q :=
 fun a w ha hw => wpIn_cond_false (by rw [ha.ev]; exact hc) (ht a w ha hw)
theorem WX.thenI {y : Code} (h : WCI Γ r y ρ I L Q) : WX Γ .normal ρ I L (Exit.then (y.wpIn (wide (some r)) 0 Γ.P Q) Q) := h
end
/-! ### Yield -/
abbrev yv (l : Nat) : Value := .func (.yield l) #[] #[]
def YieldC (P : Program) (l : Nat) (args : List Value) (I : Mem) (L : List HP) (R : Value → Mem → List HP → Prop) : Prop :=
 ∀ (E : Ev) (w : World) (F : HP), Sat E w I (F :: L) → ∃ fn tmps assign body, (Instr.yield l args.toArray).run P w = .ok (.round l fn tmps assign body) w ∧ RoundIn Fence.wide 0 P l fn tmps assign body w (FnPost E F I R)
def WLI (Γ : Cx) (ops : Array Oper) (l : List Oper) (ρ : Nat → Value) (I : Mem) (L : List HP) (Q : Post) : Prop := ∀ a w, Loc Γ.n Γ.ds ρ a → Sat Γ.E w I L → wpListIn (wide none) 0 Γ.P ops Q l a w
section
variable {Γ : Cx} {ops : Array Oper} {rest : List Oper} {ρ : Nat → Value} {I : Mem} {L : List HP} {Q : Post} {ty : TypeId} {ps : String} {af : Array Edge}
theorem WC.regionI {id : Nat} {l : List Oper} (h : WLI Γ l.toArray l ρ I L Q) : WC Γ (.region id l.toArray false) ρ I L Q :=
 fun a w ha hw => wpIn_wide.1 (wpIn_region_list (F := wide none) (n := 0) (by simpa using h a w ha hw))
theorem WLI.of [hq : NoOut Q] (h : WL Γ ops rest ρ I L Q) (hd : noDefer rest = true := by rfl) : WLI Γ ops rest ρ I L Q := fun a w ha hw => wpList_in hq.no _ hd a w (h a w ha hw)
theorem WLI.val {d : Nat} {op : Op} {v : Value} (hrun : Val Γ ρ I L op ty v) (hd : Nat.blt d Γ.n = true) (next : WLI Γ ops rest (upd ρ d v) I L Q) (hn : opNoDefer { dst := some d, op := op, type := ty, pos := ps, after := af, guard := none } = true := by rfl) :
  WLI Γ ops ({ dst := some d, op := op, type := ty, pos := ps, after := af, guard := none } :: rest) ρ I L Q := fun a w ha hw => by
 simp only [wpListIn, Region.wanted, if_true]
 refine ⟨fun _ _ => trivial, ?_⟩
 show Oper.uponIn _ _ _ _ _ _ _ ((Oper.semAt none a.eval _).run Γ.P w)
 rw [semAt_eq hn, ha.ev, show (execOp (ev ρ) { dst := some d, op := op, type := ty, pos := ps, after := af, guard := none }).run Γ.P w = .ok (.value v) w from hrun w hw]
 exact next _ w (ha.put hd v) hw
theorem run_callYield {P : Program} {x : Operand} {args : List Operand} {ats : Array TypeId} {vs : List Value} {d : Option Nat} {l : Nat} {g : Option (Nat × Bool)} (hx : ev ρ x = yv l) (hv : args.map (ev ρ) = vs) (w : World) :
  (execOp (ev ρ) { dst := d, op := .call { callee := .value x, args := args.toArray, argTypes := ats }, type := ty, pos := ps, after := af, guard := g }).run P w = (Instr.yield l vs.toArray).run P w := by
 subst hv
 simp only [execOp, resolve, hx, Deferred.ofValue, pure_bind, invoke, List.map_toArray, List.append_toArray, List.nil_append, List.append_nil]
theorem WLI.yield {d l : Nat} {x : Operand} {args : List Operand} {ats : Array TypeId} {vs : List Value} {F : HP} {LJ : List HP} {R : Value → Mem → List HP → Prop}
  (hx : ev ρ x = yv l) (hv : args.map (ev ρ) = vs) (hc : YieldC Γ.P l vs I LJ R) (hd : Nat.blt d Γ.n = true)
  (next : ∀ v I' L', I.le I' → R v I' L' → WLI Γ ops rest (upd ρ d v) I' (F :: L') Q) :
  WLI Γ ops ({ dst := some d, op := .call { callee := .value x, args := args.toArray, argTypes := ats }, type := ty, pos := ps, after := af, guard := none } :: rest) ρ I (F :: LJ) Q := fun a w ha hw => by
 simp only [wpListIn, Region.wanted, if_true]
 refine ⟨fun _ _ => trivial, ?_⟩
 show Oper.uponIn _ _ _ _ _ _ _ ((Oper.semAt none a.eval _).run Γ.P w)
 obtain ⟨fn, tmps, assign, body, hr, hR⟩ := hc Γ.E w F hw
 rw [semAt_eq (by rfl), ha.ev, run_callYield hx hv, hr]
 refine ⟨fun e => absurd e (by simp [Fence.wide]), RoundIn.mono (hR : RoundIn (wide none) 0 Γ.P l fn tmps assign body w _) ?_⟩
 rintro e w' ⟨v, I', L', rfl, hI, hw', hRv⟩
 exact next v I' L' hI hRv _ w' (ha.put hd v) hw'
end
/-! ### The statement -/
def lp (l : Nat) (r : Loop) : HP := pt l (.loop r)
def dp (D : Nat) : HP := pt D (.deferred (some []))
abbrev mark (D : Nat) : Deferred := { target := .collected D, args := #[] }
structure RecOk (n : Nat) (ρ : Nat → Value) (ps : Array Tmp) (assign body : Code) (D : Nat) (r : LoopState → Option Code → Loop) : Prop where
 is : ∃ fn tmps, Loc n [] ρ { tmps := tmps, defers := [] } ∧ r = fun st pe => { state := st, pending := pe, fn := fn, tmps := tmps, params := ps, assign := assign, body := body, defers := D }
theorem Sat.putObj {E : Ev} {w : World} {I : Mem} {L : List HP} {b : Nat} {o : Obj} (k : Nat) (hk : L[k]? = some (pt b o)) (o' : Obj) (h : Sat E w I L) : Sat E (w.putObj b o') I (L.set k (pt b o')) := by
 have hb := h.lookK hk
 exact h.writeK hk o' _ (World.putObj_heap_same (Array.getElem?_eq_some_iff.1 hb).1) (fun j hj => World.putObj_heap_other hj)
section
variable {Γ : Cx} {ρ : Nat → Value} {I : Mem} {L : List HP} {Q : Post}
theorem WX.begin {n D l : Nat} {P : Program} {E : Ev} {ps : Array Tmp} {assign body : Code} {r : LoopState → Option Code → Loop} {ρ0 : Nat → Value} {F : HP} {L1 : List HP} (hr : RecOk n ρ0 ps assign body D r)
  (h : WCI ⟨P, E, n, []⟩ l body ρ I (F :: lp l (r .busy none) :: L1) Q) :
  WX ⟨P, E, n, []⟩ .normal ρ I (F :: lp l (r .ready none) :: L1) (Exit.then (fun a₁ w₁ => ∃ w₂, (Instr.beginRound l).run P w₁ = .ok () w₂ ∧ body.wpIn (wide (some l)) 0 P Q a₁ w₂) (fun _ _ _ => False)) := fun a w ha hw => by
 obtain ⟨fn, tmps, _, rfl⟩ := hr.is
 have hl := hw.lookK (k := 1) rfl
 exact ⟨_, run_beginRound hl rfl, h a _ ha (hw.putObj 1 rfl _)⟩
theorem WX.roundGo {n D l : Nat} {P : Program} {E : Ev} {ps : Array Tmp} {assign body : Code} {r : LoopState → Option Code → Loop} {ρ0 : Nat → Value} {F : HP} {L1 : List HP} {I0 : Mem} {R : Value → Mem → List HP → Prop} (hr : RecOk n ρ0 ps assign body D r) (hI : I0.le I)
  (hR : R (.bool true) I (lp l (r .ready none) :: L1)) : WX ⟨P, E, n, []⟩ .normal ρ I (F :: lp l (r .busy none) :: L1) (roundPost P l (FnPost E F I0 R)) := fun a w ha hw => by
 obtain ⟨fn, tmps, _, rfl⟩ := hr.is
 have hl := hw.lookK (k := 1) rfl
 exact ⟨_, _, run_endRound none hl, _, I, _, rfl, hI, hw.putObj 1 rfl _, hR⟩
theorem WX.roundRet {n D l : Nat} {P : Program} {E : Ev} {ps : Array Tmp} {assign body : Code} {r : LoopState → Option Code → Loop} {ρ0 : Nat → Value} {F : HP} {L1 : List HP} {I0 : Mem} {R : Value → Mem → List HP → Prop} (hr : RecOk n ρ0 ps assign body D r) (hI : I0.le I)
  (hR : R (.bool false) I (lp l (r .done (some .ret)) :: L1)) : WX ⟨P, E, n, []⟩ .ret ρ I (F :: lp l (r .busy none) :: L1) (roundPost P l (FnPost E F I0 R)) := fun a w ha hw => by
 obtain ⟨fn, tmps, _, rfl⟩ := hr.is
 have hl := hw.lookK (k := 1) rfl
 exact ⟨_, _, run_endRound (some .ret) hl, _, I, _, rfl, hI, hw.putObj 1 rfl _, hR⟩
theorem YieldC.of_body {n D l : Nat} {P : Program} {p q : Tmp} {assign body : Code} {r : LoopState → Option Code → Loop} {u v : Value} {L1 : List HP} {R : Value → Mem → List HP → Prop} (hr : RecOk n ρ #[p, q] assign body D r) (hp : Nat.blt p n = true) (hq : Nat.blt q n = true)
  (h : ∀ E F, WCI ⟨P, E, n, []⟩ l assign (upd (upd ρ p u) q v) I (F :: lp l (r .ready none) :: L1) (Exit.then (fun a₁ w₁ => ∃ w₂, (Instr.beginRound l).run P w₁ = .ok () w₂ ∧ body.wpIn (wide (some l)) 0 P (roundPost P l (FnPost E F I R)) a₁ w₂) (fun _ _ _ => False))) :
  YieldC P l [u, v] I (lp l (r .ready none) :: L1) R := fun E w F hw => by
 obtain ⟨fn, tmps, hloc, hrr⟩ := hr.is
 have hl := hw.lookK (k := 1) rfl
 rw [hrr] at hl
 refine ⟨fn, _, assign, body, run_yield hl rfl, roundIn_of_wpIn (F := Fence.wide) trivial ?_⟩
 have hl2 := (hloc.put hp u).put hq v
 refine h E F _ w ?_ hw
 simp only [Act.put] at hl2
 simpa using hl2
theorem WC.rangeFunc {g : Operand} {ps : Array Tmp} {assign body : Code} {gf : FuncId} {lb : List Value} [hf : FnK Γ.P gf] {F : HP} {L0 : List HP} (hds : Γ.ds = []) (hg : ev ρ g = .func (.func gf) #[] lb.toArray)
  (J : Mem → List HP → Prop) (Jx : Code → Mem → List HP → Prop)
  (hc : ∀ (D l : Nat) (r : LoopState → Option Code → Loop), RecOk Γ.n ρ ps assign body D r → Ctr Γ.P gf (yv l :: lb) I (lp l (r .ready none) :: dp D :: L0) (fun v I' L' => (∃ L1, L' = lp l (r .ready none) :: dp D :: L1 ∧ J I' L1) ∨ (∃ c L1, L' = lp l (r .done (some c)) :: dp D :: L1 ∧ Jx c I' L1)))
  (hdone : ∀ D I' L1, I.le I' → J I' L1 → WX ⟨Γ.P, Γ.E, Γ.n, [mark D]⟩ .normal ρ I' (F :: dp D :: L1) Q)
  (hstop : ∀ D c I' L1, I.le I' → Jx c I' L1 → WC ⟨Γ.P, Γ.E, Γ.n, [mark D]⟩ c ρ I' (F :: dp D :: L1) Q) :
  WC Γ (.rangeFunc g ps assign body) ρ I (F :: L0) Q := fun a w ha hw => by
 refine (wpIn_wide (n := 1)).1 (wpIn_rangeFunc ?_)
 intro fn _
 obtain ⟨r, hr⟩ : ∃ r : LoopState → Option Code → Loop, r = fun st pe => { state := st, pending := pe, fn := fn, tmps := a.tmps, params := ps, assign := assign, body := body, defers := w.heap.size } := ⟨_, rfl⟩
 have hrec : RecOk Γ.n ρ ps assign body w.heap.size r := ⟨fn, a.tmps, ⟨rfl, ha.size, ha.get⟩, hr⟩
 have hw1 := (hw.alloc (.deferred (some []))).alloc (.loop (r .ready none))
 have hsz : (w.heap.push (.deferred (some []))).size = w.heap.size + 1 := by simp
 have hw2 : Sat Γ.E ((w.alloc (.deferred (some []))).alloc (.loop (r .ready none))) I (F :: lp (w.heap.size + 1) (r .ready none) :: dp w.heap.size :: L0) := by
  refine Sat.perm (L := F :: L0 ++ [dp w.heap.size] ++ [lp (w.heap.size + 1) (r .ready none)]) ?_ ?_
  ·have : Sat Γ.E ((w.alloc (.deferred (some []))).alloc (.loop (r .ready none))) I (F :: L0 ++ [pt w.heap.size (.deferred (some []))] ++ [pt (w.heap.push (.deferred (some []))).size (.loop (r .ready none))]) := hw1
   rw [hsz] at this
   exact this
  ·simp only [List.cons_append]
   refine List.Perm.cons F ?_
   have h1 : (L0 ++ [dp w.heap.size] ++ [lp (w.heap.size + 1) (r .ready none)]).Perm (lp (w.heap.size + 1) (r .ready none) :: (L0 ++ [dp w.heap.size])) := List.perm_append_comm
   exact h1.trans (List.Perm.cons _ List.perm_append_comm)
 refine ⟨w.heap.size + 1, [mark w.heap.size], (w.alloc (.deferred (some []))).alloc (.loop (r .ready none)), { target := .fn (.func gf) lb.toArray, args := #[yv (w.heap.size + 1)] }, (w.alloc (.deferred (some []))).alloc (.loop (r .ready none)), gf, (yv (w.heap.size + 1) :: lb).toArray, (w.alloc (.deferred (some []))).alloc (.loop (r .ready none)), ?_, ?_, fun _ _ => trivial, ?_, fun e => absurd e (by simp [Fence.wide]), ?_⟩
 ·rw [hr]; exact run_enterLoop_outer _ _ _ _ _
 ·rw [ha.ev]
  simp only [resolve, hg, Deferred.ofValue, pure_bind]
  simp [ev, Sem.run_bind]
 ·simp only [invoke]
  have := run_enter hf (yv (w.heap.size + 1) :: lb).toArray ((w.alloc (.deferred (some []))).alloc (.loop (r .ready none)))
  simpa using this
 ·have hcall := hc w.heap.size (w.heap.size + 1) r hrec Γ.E _ F hw2
  refine CallsIn.mono (callsIn_wide.2 hcall) ?_
  rintro e w3 ⟨v, I', L', rfl, hI, hw3, hR⟩
  have hloc : ∀ D, Loc Γ.n [mark D] ρ { a with defers := [mark D] ++ a.defers } := fun D => ⟨by simp [ha.defers, hds], ha.size, ha.get⟩
  rcases hR with ⟨L1, rfl, hJ⟩ | ⟨c, L1, rfl, hJ⟩
  ·have hl := hw3.lookK (k := 1) rfl
   have hwe := (((hw3.putObj 1 rfl (.loop { r .ready none with state := .exhausted })).perm (pull 1 _ _ rfl))).tail
   refine ⟨none, _, ?_, hdone w.heap.size I' L1 hI hJ _ _ (hloc _) hwe⟩
   have := run_endLoop (P := Γ.P) hl (by rw [hr]; simp)
   rw [hr] at this ⊢
   exact this
  ·have hl := hw3.lookK (k := 1) rfl
   have hwe := (((hw3.putObj 1 rfl (.loop { r .done (some c) with state := .exhausted })).perm (pull 1 _ _ rfl))).tail
   refine ⟨some c, _, ?_, (wpIn_wide (n := 1)).2 (hstop w.heap.size c I' L1 hI hJ _ _ (hloc _) hwe)⟩
   have := run_endLoop (P := Γ.P) hl (by rw [hr]; simp)
   rw [hr] at this ⊢
   exact this
theorem WC.boxFrz {c : Code} {g ty : Nat} {cs : List Value} {L' : List HP} (k : Nat) (hL : L[k]? = some (Sl.box g ty cs)) [hE : EraL L k L'] (next : ∀ I', I.le I' → Sl.At I' g 0 cs → WC Γ c ρ I' L' Q) : WC Γ c ρ I L Q := fun a w ha hw => by
 have h := hw.freezeK hL
 rw [hE.is] at h
 exact next _ h.2 ⟨cs.toArray, ty, (0, 0), by simp [Mem.ins], fun j v hj => by simpa using hj⟩ a w ha h.1
theorem WX.boxFrz {c : Exit} {g ty : Nat} {cs : List Value} {L' : List HP} (k : Nat) (hL : L[k]? = some (Sl.box g ty cs)) [hE : EraL L k L'] (next : ∀ I', I.le I' → Sl.At I' g 0 cs → WX Γ c ρ I' L' Q) : WX Γ c ρ I L Q := fun a w ha hw => by
 have h := hw.freezeK hL
 rw [hE.is] at h
 exact next _ h.2 ⟨cs.toArray, ty, (0, 0), by simp [Mem.ins], fun j v hj => by simpa using hj⟩ a w ha h.1
theorem WL.boxFrz {ops : Array Oper} {rest : List Oper} {g ty : Nat} {cs : List Value} {L' : List HP} (k : Nat) (hL : L[k]? = some (Sl.box g ty cs)) [hE : EraL L k L'] (next : ∀ I', I.le I' → Sl.At I' g 0 cs → WL Γ ops rest ρ I' L' Q) : WL Γ ops rest ρ I L Q := fun a w ha hw => by
 have h := hw.freezeK hL
 rw [hE.is] at h
 exact next _ h.2 ⟨cs.toArray, ty, (0, 0), by simp [Mem.ins], fun j v hj => by simpa using hj⟩ a w ha h.1
theorem WL.stM {ops : Array Oper} {rest : List Oper} {ty : TypeId} {ps : String} {af : Array Edge} {t b off n bt : Nat} {g : Bool} {x y : Operand} {cs cs' : List Value} {L' : List HP} {m : Option Nat} (k : Nat) [hk : TyK Γ.P t g n] (hx : ev ρ x = .pointer (some ⟨b, off, none⟩)) (hL : L[k]? = some (Sl.box b bt cs)) (hy : ev ρ y = .map m)
  (hok : storeOk [.map m] n off cs.length = true) [h1 : SplL cs off [.map m] cs'] [h2 : SetL L k (Sl.box b bt cs') L'] (next : WL Γ ops rest ρ I L' Q) :
  WL Γ ops ({ dst := none, op := .store t x y, type := ty, pos := ps, after := af, guard := none } :: rest) ρ I L Q :=
 WL.store k hx hL (by rw [hy]; exact hok) (by rw [hy]; show WL Γ ops rest ρ I (L.set k (Sl.box b bt (splice cs off [.map m]))) Q; rw [h1.is, h2.is]; exact next)
theorem Val.to {op : Op} {ty : TypeId} {v v' : Value} (e : v = v') (h : Val Γ ρ I L op ty v) : Val Γ ρ I L op ty v' := e ▸ h
/-! ### Ends -/
theorem Ctr.introM {P : Program} {f : FuncId} {args : List Value} {I : Mem} {L : List HP} {R : Value → Mem → List HP → Prop} {fn : Func} {c : Code} {n : Nat} (hf : P.funcs[f]? = some fn) (hb : fn.body = some c) (hn : fn.ntmps = n)
  (ha : Nat.ble args.length n = true) (h : ∀ E F, WC ⟨P, E, n, []⟩ c (argρ args) I (F :: L) (bodyM P fn (FnPost E F I R))) : Ctr P f args I L R := fun E w F hw =>
 callsIn_wide.1 (callsIn_of_wp_marks (F := Fence.wide) (n := 0) hf hb trivial (wpIn_wide.2 (wp_mono (h E F _ w (by rw [hn]; exact Loc.start (Nat.le_of_ble_eq_true ha)) hw) fun e a w hq => by
  cases e <;> first | exact hq | exact hq.elim)))
theorem WX.doneM0 {fn : Func} {F : HP} {I0 : Mem} {L' Lr : List HP} {v : Value} {R : Value → Mem → List HP → Prop} (hres : RunRes Γ fn ρ I L v) (ks : List Nat) [hp : PickL (0 :: ks) L (F :: L') Lr] (hI : I0.le I) (hR : R v I L') (hds : Γ.ds = [] := by rfl) :
  WX Γ .ret ρ I L (bodyM Γ.P fn (FnPost Γ.E F I0 R)) := fun a w ha hw => by
 show LeavesInM Fence.wide 0 Γ.P fn a.tmps _ a.defers .returning w
 rw [ha.defers, hds]
 exact ⟨v, hres a w ha hw, v, I, L', rfl, hI, (hw.perm (picks_perm _ _ _ _ hp.is)).imp fun m hm => by
  obtain ⟨m1, m2, h1, h2, h3, h4, h5⟩ := sts_append hm
  exact sts_mono h4 h1, hR⟩
theorem WX.doneM {fn : Func} {F : HP} {I0 : Mem} {L1 L' Lr : List HP} {v : Value} {R : Value → Mem → List HP → Prop} {D : Nat} (hres : RunRes Γ fn ρ I (F :: L1) v) (ks : List Nat) [hp : PickL ks L1 L' Lr] (hI : I0.le I) (hR : R v I L') (hds : Γ.ds = [mark D] := by rfl) :
  WX Γ .ret ρ I (F :: dp D :: L1) (bodyM Γ.P fn (FnPost Γ.E F I0 R)) := fun a w ha hw => by
 show LeavesInM Fence.wide 0 Γ.P fn a.tmps _ a.defers .returning w
 rw [ha.defers, hds]
 have hk := hw.lookK (k := 1) rfl
 have hw2 := ((hw.putObj 1 rfl (.deferred none)).perm (pull 1 _ _ rfl)).tail
 refine ⟨by simp, .inl ⟨D, _, rfl, run_takeDeferred hk, v, hres a _ ha hw2, v, I, L', rfl, hI, (hw2.perm ((picks_perm _ _ _ _ hp.is).cons F)).imp fun m hm => ?_, hR⟩⟩
 obtain ⟨m1, m2, h1, h2, h3, h4, h5⟩ := sts_append (l := F :: L') hm
 exact sts_mono h4 h1
end
end Go.Sl

namespace Go.Sl
open Go.Ls Go.MapKept
section
variable {Γ : Cx} {ops : Array Oper} {rest : List Oper} {ρ : Nat → Value} {I : Mem} {L : List HP} {Q : Post} {ty : TypeId} {ps : String} {af : Array Edge}
end
end Go.Sl

namespace Go.Sl
open Go.Ls
section
variable {Γ : Cx} {ops : Array Oper} {rest : List Oper} {ρ : Nat → Value} {I : Mem} {L : List HP} {Q : Post} {ty : TypeId} {ps : String} {af : Array Edge}
theorem Val.minI {x y : Operand} {i j : Int} {ats : Array TypeId} (hx : ev ρ x = .int .i64 i) (hy : ev ρ y = .int .i64 j) : Val Γ ρ I L (.call { callee := .builtin .min, args := #[x, y], argTypes := ats }) ty (vi (min i j)) := fun w hw => by
 have h : (if j < i then j else i) = min i j := by
  by_cases hq : j < i
  ·rw [if_pos hq]; omega
  ·rw [if_neg hq]; omega
 simp only [execOp, resolve, List.map_toArray, List.map_cons, List.map_nil, hx, hy, pure_bind, invoke, builtin, Builtin.min_]
 simp [Builtin.min2, h]
theorem Val.max3 {x y z : Operand} {k : IntKind} {i j l : Int} {ats : Array TypeId} (hx : ev ρ x = .int k i) (hy : ev ρ y = .int k j) (hz : ev ρ z = .int k l) : Val Γ ρ I L (.call { callee := .builtin .max, args := #[x, y, z], argTypes := ats }) ty (.int k (max (max i j) l)) := fun w hw => by
 have h : (if j > i then j else i) = max i j := by
  by_cases hq : j > i
  ·rw [if_pos hq]; omega
  ·rw [if_neg hq]; omega
 have h2 : (if l > max i j then l else max i j) = max (max i j) l := by
  by_cases hq : l > max i j
  ·rw [if_pos hq]; omega
  ·rw [if_neg hq]; omega
 simp only [execOp, resolve, List.map_toArray, List.map_cons, List.map_nil, hx, hy, hz, pure_bind, invoke, builtin, Builtin.max_]
 simp [Builtin.max2, h, h2]
theorem Val.index1 {t l : Nat} {x y : Operand} {cs : List Value} {v : Value} {k : IntKind} {j : Int} [hk : ArK Γ.P t l false 1] (hx : ev ρ x = .agg cs.toArray) (hi : ev ρ y = .int k j) (h0 : 0 ≤ j) (h1 : j < l) (hv : cs[j.toNat]? = some v) :
  Val Γ ρ I L (.index t x y) ty v := fun w hw => by
 obtain ⟨e, hu, he⟩ := ArK.und hk.is
 have hp := run_partS he (cs := cs.toArray) (off := j.toNat * 1) (v := v) (by rw [Nat.mul_one]; simpa using hv) w
 simp only [execOp, hx, hi, Instr.index, asIntOf, pure_bind, Sem.run_bind, run_underlying hu, Result.andThen_ok]
 simp only [h0, h1, and_self, if_true, Sem.run_bind, TyK.size he, Result.andThen_ok, hp]
 rfl
theorem Val.lookup1v {t b n : Nat} {x y : Operand} {i : Int} {z v : Value} {f : Int → Option Value} (k : Nat) [hk : MapK Γ.P t z] (hv : (f i).getD z = v) (hx : ev ρ x = .map (some b)) (hy : ev ρ y = vi i) (hL : L[k]? = some (mp b f n)) :
  Val Γ ρ I L (.lookup t x y false) ty v := hv ▸ Val.lookup1 k hx hy hL
end
theorem Sat.fold {E : Ev} {w : World} {I : Mem} {l' : List HP} (l : List HP) (h : Sat E w I (l ++ l')) : Sat E w I (sts l :: l') := h.imp fun m hm => sts_fold hm
theorem Sat.unfold {E : Ev} {w : World} {I : Mem} {l l' : List HP} (h : Sat E w I (sts l :: l')) : Sat E w I (l ++ l') := h.imp fun m hm => sts_unfold hm
end Go.Sl

namespace Go.Sl
open Go.Ls
section
variable {Γ : Cx} {ops : Array Oper} {rest : List Oper} {ρ : Nat → Value} {I : Mem} {L : List HP} {Q : Post} {ty : TypeId} {ps : String} {af : Array Edge}
theorem WL.appNil {d t tn e sz q by_ : Nat} {s x : Operand} {zs : List Value} [hk : SlK Γ.P t e sz] [hi : IntK Γ.P tn .i64] [hz : ZeroK Γ.P e zs] [hb : BytK Γ.P e by_]
  (hs : ev ρ s = .slice none 0 0) (hx : ev ρ x = .int .i64 (q : Int)) (h0 : 0 < q) (hzs : zs.length = sz) (hsz : 0 < sz) (hbd : q * by_ ≤ 281474976710656) (hq : q ≤ 1099511627776) (hd : Nat.blt d Γ.n = true)
  (next : ∀ g2 cap2, q ≤ cap2 → cap2 ≤ maxLen → WL Γ ops rest (upd ρ d (.slice (some ⟨g2, 0, none⟩) q cap2)) I (L ++ [sl e sz (.slice (some ⟨g2, 0, none⟩) 0 cap2) 0 []]) Q) :
  WL Γ ops ({ dst := some d, op := .call { callee := .builtin .append, args := #[s, x], argTypes := #[t, tn] }, type := ty, pos := ps, after := af, guard := none } :: rest) ρ I L Q :=
 WL.effX (fun w hw => by
  obtain ⟨hu, ie, hie, hn⟩ := SlK.und hk.is
  obtain ⟨j, z', hj, hz1, hz2⟩ := zero_cells hz.is
  have hii : ie = j := by rw [hj] at hie; exact (Option.some.inj hie).symm
  subst hii
  have hby : ie.bytes = by_ := by have := hb.is; rw [hj] at this; simpa using this
  have hrun := Lib.run_append_nil_zeros (P := Γ.P) w t tn ty e ie z' .i64 .i64 hu hi.is hj hz1 q h0 (by omega) (by omega) (by rw [hby]; exact hbd)
  have hle := grownCap_ge w q 0 e
  have hml := grownCap_le_maxLen w q 0 e (by unfold maxLen; omega)
  have hsize : ∀ n, (Builtin.zeroCells z'.cells n).size = n * sz := fun n => by
   rw [hz2]
   simp [Builtin.zeroCells, hzs]
  have h1 := hw.drew.alloc (.cells (Builtin.zeroCells z'.cells q ++ Builtin.zeroCells z'.cells (grownCap w q 0 e - q)) e (0, 0))
  have hlen : (L ++ [pt w.drew.heap.size (.cells (Builtin.zeroCells z'.cells q ++ Builtin.zeroCells z'.cells (grownCap w q 0 e - q)) e (0, 0))])[L.length]? = some (Sl.box w.drew.heap.size e (Builtin.zeroCells z'.cells q ++ Builtin.zeroCells z'.cells (grownCap w q 0 e - q)).toList) := by
   rw [List.getElem?_append_right (Nat.le_refl _), Nat.sub_self, Sl.box, Array.toArray_toList]
   rfl
  have h2 := h1.slIn (sz := sz) (n := 0) (cap := grownCap w q 0 e) L.length hlen (by
   rw [Array.length_toList, Array.size_append, hsize, hsize, ← Nat.add_mul]
   congr 1
   omega) (Nat.zero_le _) hml
  rw [List.set_append_right _ _ (Nat.le_refl _), Nat.sub_self, List.set_cons_zero, Nat.zero_mul, List.take_zero] at h2
  refine ⟨_, _, I, _, ?_, h2, next _ _ hle hml⟩
  simp only [execOp, resolve, List.map_toArray, List.map_cons, List.map_nil, hs, hx, pure_bind, invoke, builtin, Sem.run_bind, hrun, Result.andThen_ok]
  rfl) hd
end
end Go.Sl

namespace Go.Sl
open Go
theorem run_copy_rowN {P : Program} (w : World) (dT sT ty elem : TypeId) (g o dLen dCap sz : Nat) (a : Addr) (sLen sCap : Nat) (cur : Array Value) (t : TypeId) (cs : List Value)
  (hu : P.underlying dT = some (.slice elem)) (hs : (P.info? elem).map (·.size) = some sz)
  (hg : w.heap[g]? = some (.cells cur t (0, 0))) (hn : cs.length = Nat.min sLen dLen * sz)
  (hsrc : ∀ j v, cs[j]? = some v → w.cell? (a.add j) = some v) (hfit : o + cs.length ≤ cur.size) (h1 : ∀ v ∈ cs, v.oneCell' = true) :
  (Builtin.copy_ #[dT, sT] ty #[.slice (some ⟨g, o, none⟩) dLen dCap, .slice (some a) sLen sCap]).run P w =
   .ok (goInt (Nat.min sLen dLen)) (w.setRow g (cur.toList.take o ++ cs ++ cur.toList.drop (o + cs.length)).toArray) := by
 have hl := run_loadCells_list (P := P) w a cs hsrc
 have hst := run_storeCells_at P g o t cs 0 cur w hg (by simpa using hfit) h1
 cases hq : P.info? elem with
 | none => simp [hq] at hs
 | some i =>
  have hi : i.size = sz := by simpa [hq] using hs
  simp [Builtin.copy_, run_underlying hu, Builtin.lenOf, Builtin.firstCells, Go.sizeOf, typeInfo, hq, hi, ← hn, hl, hst]
section
variable {Γ : Cx} {ops : Array Oper} {rest : List Oper} {ρ : Nat → Value} {I : Mem} {L : List HP} {Q : Post} {ty : TypeId} {ps : String} {af : Array Edge}
theorem WL.copyN {d t e sz g o dn dc n c b off bt m : Nat} {x y : Operand} {cs ys : List Value} (k : Nat) [hk : SlK Γ.P t e sz] (hx : ev ρ x = .slice (some ⟨g, o, none⟩) dn dc) (hL : L[k]? = some (Sl.box g bt cs)) (hy : ev ρ y = .slice (some ⟨b, off, none⟩) n c)
  (hr : Rd I L b off ys) (hm : Nat.min n dn = m) (hn : ys.length = m * sz) (h1 : ys.all Value.oneCell' = true) (hfit : o + ys.length ≤ cs.length) (hd : Nat.blt d Γ.n = true)
  (next : WL Γ ops rest (upd ρ d (.int .i64 m)) I (L.set k (Sl.box g bt (splice cs o ys))) Q) :
  WL Γ ops ({ dst := some d, op := .call { callee := .builtin .copy, args := #[x, y], argTypes := #[t, t] }, type := ty, pos := ps, after := af, guard := none } :: rest) ρ I L Q :=
 WL.eff (fun w hw => by
  obtain ⟨hu, ie, hie, hsz⟩ := SlK.und hk.is
  have hg := hw.lookK hL
  have := run_copy_rowN (P := Γ.P) w t t ty e g o dn dc sz ⟨b, off, none⟩ n c cs.toArray bt ys hu (by rw [hie]; simp [hsz]) hg (by rw [hm]; exact hn) (fun j u hj => by
   rw [addr_add]; exact hr Γ.E w hw j u hj) (by simpa using hfit) (fun v hv => List.all_eq_true.1 h1 v hv)
  rw [hm] at this
  refine ⟨_, ?_, setRow_sat hw hL (splice cs o ys)⟩
  simp only [execOp, resolve, List.map_toArray, List.map_cons, List.map_nil, hx, hy, pure_bind, invoke, builtin, Sem.run_bind, this, Result.andThen_ok]
  simp [splice, goInt]) hd next
theorem Rd.all {b ty : Nat} {cs : List Value} (k : Nat) (hk : L[k]? = some (Sl.box b ty cs)) : Rd I L b 0 cs := Rd.own k hk 0 cs fun j v h => by rw [Nat.zero_add]; exact h
theorem WL.stG {t b off n bt : Nat} {g : Bool} {x y : Operand} {cs cs' : List Value} {L' : List HP} {vs : List Value} (k : Nat) [hk : TyK Γ.P t g n] (hx : ev ρ x = .pointer (some ⟨b, off, none⟩)) (hL : L[k]? = some (Sl.box b bt cs)) (hy : ev ρ y = .agg vs.toArray)
  (hn : vs.length = n) (h1 : vs.all Value.oneCell' = true) (hf : off + n ≤ cs.length) (he : splice cs off vs = cs') [h2 : SetL L k (Sl.box b bt cs') L'] (next : WL Γ ops rest ρ I L' Q) :
  WL Γ ops ({ dst := none, op := .store t x y, type := ty, pos := ps, after := af, guard := none } :: rest) ρ I L Q :=
 WL.store k hx hL (by
  rw [hy, storeOk, Bool.and_eq_true, Bool.and_eq_true]
  exact ⟨⟨by show Nat.beq vs.length n = true; rw [hn]; exact Nat.beq_refl n, h1⟩, Nat.ble_eq_true_of_le (by show off + vs.length ≤ _; omega)⟩) (by rw [hy]; show WL Γ ops rest ρ I (L.set k (Sl.box b bt (splice cs off vs))) Q; rw [he, h2.is]; exact next)
end
end Go.Sl

namespace Go.Sl
open Go.Ls Go.MapKept
section
variable {Γ : Cx} {ops : Array Oper} {rest : List Oper} {ρ : Nat → Value} {I : Mem} {L : List HP} {Q : Post} {ty : TypeId} {ps : String} {af : Array Edge}
end
end Go.Sl

namespace Go.Sl
open Go.Ls
section
variable {Γ : Cx} {ops : Array Oper} {rest : List Oper} {ρ : Nat → Value} {I : Mem} {L : List HP} {Q : Post} {ty : TypeId} {ps : String} {af : Array Edge}
end
theorem picks_head {α : Type} : ∀ A R : List α, picks (List.replicate A.length 0) (A ++ R) = some (A, R)
 | [], _ => rfl
 | a :: A, R => by
  show (match picks (List.replicate A.length 0) (A ++ R) with | none => none | some (xs, r) => some (a :: xs, r)) = _
  rw [picks_head A R]
section
variable {Γ : Cx} {ops : Array Oper} {rest : List Oper} {ρ : Nat → Value} {I : Mem} {L : List HP} {Q : Post} {ty : TypeId} {ps : String} {af : Array Edge}
theorem WL.callSts {d : Nat} {f : FuncId} {x : Operand} {args : List Operand} {ats : Array TypeId} {fs cp vs : List Value} {M : List HP} {R : Value → Mem → List HP → Prop} (k : Nat) [hf : FnK Γ.P f]
  (hx : ev ρ x = .func (.func f) fs.toArray cp.toArray) (hv : fs ++ args.map (ev ρ) ++ cp = vs) (hL : L[k]? = some (sts M)) (hc : Ctr Γ.P f vs I M R) (hd : Nat.blt d Γ.n = true)
  (next : ∀ v I' M', I.le I' → R v I' M' → WL Γ ops rest (upd ρ d v) I' (L.set k (sts M')) Q) :
  WL Γ ops ({ dst := some d, op := .call { callee := .value x, args := args.toArray, argTypes := ats }, type := ty, pos := ps, after := af, guard := none } :: rest) ρ I L Q :=
 WL.conv (fun w hw => (hw.perm (pull k L _ hL)).unfold) (WL.call _ hx hv (picks_head M (L.eraseIdx k)) hc hd fun v I' M' hI hR a w ha hw => next v I' M' hI hR a w ha (by
  have h1 : Sat Γ.E w I' (M' ++ L.eraseIdx k) := hw.perm List.perm_append_comm
  exact (h1.fold M').perm (push_back k L _ _ hL)))
theorem WL.callStsR {d : Nat} {f : FuncId} {x : Operand} {args : List Operand} {ats : Array TypeId} {fs cp vs : List Value} {M : List HP} {R : Value → Mem → Prop} (k : Nat) [hf : FnK Γ.P f]
  (hx : ev ρ x = .func (.func f) fs.toArray cp.toArray) (hv : fs ++ args.map (ev ρ) ++ cp = vs) (hL : L[k]? = some (sts M)) (hc : Ctr Γ.P f vs I M (KeepR M R)) (hd : Nat.blt d Γ.n = true)
  (next : ∀ v I', I.le I' → R v I' → WL Γ ops rest (upd ρ d v) I' L Q) :
  WL Γ ops ({ dst := some d, op := .call { callee := .value x, args := args.toArray, argTypes := ats }, type := ty, pos := ps, after := af, guard := none } :: rest) ρ I L Q :=
 WL.callSts k hx hv hL hc hd fun v I' M' hI ⟨h1, h2⟩ => by
  subst h1
  rw [set_same hL]
  exact next v I' hI h2
end
end Go.Sl
