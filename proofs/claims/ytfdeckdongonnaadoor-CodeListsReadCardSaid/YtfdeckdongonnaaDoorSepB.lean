/-
  Rules for operations, calls, and functions over SepA.
-/
import Derived.Test.YtfdeckdongonnaaDoorSepA
import Derived.Laws.Tables
import Derived.Laws.CopyRow
import Derived.Laws.Cells
import Derived.Laws.StandIn
import Derived.WalkKit
namespace Go.Sl
set_option linter.unusedVariables false
set_option linter.unusedSimpArgs false

/-! ### Facts on types, found by their numbers -/
def tyk (P : Program) (t : Nat) : Option (Bool × Nat) :=
  match P.underlying t, P.info? t with
  | some (.struct _), some i => some (true, i.size)
  | some (.array _ _), some i => some (true, i.size)
  | some _, some i => some (false, i.size)
  | _, _ => none
class TyK (P : Program) (t : Nat) (agg : outParam Bool) (n : outParam Nat) : Prop where
  is : tyk P t = some (agg, n)
theorem TyK.und {P : Program} {t : Nat} {g : Bool} {n : Nat} (h : tyk P t = some (g, n)) : ∃ d i, P.underlying t = some d ∧ P.info? t = some i ∧ i.size = n ∧
    (g = (match d with | .struct _ => true | .array _ _ => true | _ => false)) := by
  unfold tyk at h
  cases hd : P.underlying t with
  | none => rw [hd] at h; simp at h
  | some d => cases hi : P.info? t with
    | none => rw [hd, hi] at h; cases d <;> simp at h
    | some i => refine ⟨d, i, rfl, rfl, ?_⟩; rw [hd, hi] at h; cases d <;> simp at h <;> simp [h]
theorem TyK.size {P : Program} {t : Nat} {g : Bool} {n : Nat} (h : tyk P t = some (g, n)) (w : World) : (sizeOf t).run P w = .ok n w := by
  obtain ⟨d, i, _, hi, hn, _⟩ := TyK.und h
  rw [run_sizeOf w hi]
  simp [Program.cellsOf, hi, hn]
theorem TyK.cellsOf {P : Program} {t : Nat} {g : Bool} {n : Nat} (h : tyk P t = some (g, n)) : P.cellsOf t = n := by
  obtain ⟨d, i, _, hi, hn, _⟩ := TyK.und h
  simp [Program.cellsOf, hi, hn]
theorem TyK.agg {P : Program} {t : Nat} {g : Bool} {n : Nat} (h : tyk P t = some (g, n)) (w : World) : (isAgg t).run P w = .ok g w := by
  obtain ⟨d, i, hd, _, _, rfl⟩ := TyK.und h
  unfold isAgg
  rw [Sem.run_bind, run_underlying hd]
  cases d <;> rfl

/-- The zero value's cells. -/
def zeroK (P : Program) (t : Nat) : Option (List Value) := (P.info? t).bind fun i => i.zero.map fun z => z.cells.toList
class ZeroK (P : Program) (t : Nat) (zs : outParam (List Value)) : Prop where
  is : zeroK P t = some zs
theorem ZeroK.run {P : Program} {t : Nat} {zs : List Value} (h : zeroK P t = some zs) (w : World) : ∃ z, (zeroValue t).run P w = .ok z w ∧ z.cells = zs.toArray := by
  unfold zeroK at h
  cases hi : P.info? t with
  | none => rw [hi] at h; cases h
  | some i => cases hz : i.zero with
    | none => rw [hi] at h; simp [hz] at h
    | some z =>
      rw [hi] at h; simp [hz] at h
      refine ⟨z, ?_, by rw [← h]⟩
      unfold zeroValue
      rw [Sem.run_bind, run_typeInfo w hi]
      simp [hz, Result.andThen]

/-- A field's place. -/
def fldK (P : Program) (s f : Nat) : Option (Nat × Nat × Bool × Nat) :=
  match P.underlying s with
  | some (.struct fs) => (fs[f]?).bind fun x => (tyk P x.type).bind fun (g, n) => if n = 0 then none else some (x.offset, x.type, g, n)
  | _ => none
class FldK (P : Program) (s f : Nat) (off : outParam Nat) (g : outParam Bool) (n : outParam Nat) : Prop where
  is : (fldK P s f).map (fun x => (x.1, x.2.2)) = some (off, g, n)
theorem FldK.und {P : Program} {s f off n : Nat} {g : Bool} (h : (fldK P s f).map (fun x => (x.1, x.2.2)) = some (off, g, n)) :
    ∃ fs x, P.underlying s = some (.struct fs) ∧ fs[f]? = some x ∧ x.offset = off ∧ tyk P x.type = some (g, n) ∧ n ≠ 0 := by
  unfold fldK at h
  split at h
  · rename_i fs hfs
    cases hx : fs[f]? with
    | none => simp [hx] at h
    | some x =>
      cases ht : tyk P x.type with
      | none => simp [hx, ht] at h
      | some gn =>
        obtain ⟨g', n'⟩ := gn
        by_cases hn : n' = 0
        · simp [hx, ht, hn] at h
        · simp [hx, ht, hn] at h
          obtain ⟨rfl, rfl, rfl⟩ := h
          exact ⟨fs, x, hfs, hx, rfl, ht, hn⟩
  · cases h

/-- A slice's element type. -/
def slk (P : Program) (t : Nat) : Option (Nat × Nat) :=
  match P.underlying t with
  | some (.slice e) => (P.info? e).map fun i => (e, i.size)
  | _ => none
class SlK (P : Program) (t : Nat) (e : outParam Nat) (n : outParam Nat) : Prop where
  is : slk P t = some (e, n)
theorem SlK.und {P : Program} {t e n : Nat} (h : slk P t = some (e, n)) : P.underlying t = some (.slice e) ∧ (∃ i, P.info? e = some i ∧ i.size = n) := by
  unfold slk at h
  split at h
  · rename_i e' he
    cases hi : P.info? e' with
    | none => rw [hi] at h; cases h
    | some i => rw [hi] at h; simp at h; obtain ⟨rfl, rfl⟩ := h; exact ⟨he, i, hi, rfl⟩
  · cases h
/-- An array's length and element type. -/
def ark (P : Program) (t : Nat) : Option (Nat × Nat × Bool × Nat) :=
  match P.underlying t with
  | some (.array l e) => (tyk P e).map fun (g, n) => (l, e, g, n)
  | _ => none
class ArK (P : Program) (t : Nat) (l : outParam Nat) (g : outParam Bool) (n : outParam Nat) : Prop where
  is : (ark P t).map (fun x => (x.1, x.2.2)) = some (l, g, n)
theorem ArK.und {P : Program} {t l n : Nat} {g : Bool} (h : (ark P t).map (fun x => (x.1, x.2.2)) = some (l, g, n)) :
    ∃ e, P.underlying t = some (.array l e) ∧ tyk P e = some (g, n) := by
  unfold ark at h
  split at h
  · rename_i l' e he
    cases hk : tyk P e with
    | none => simp [hk] at h
    | some gn => obtain ⟨g', n'⟩ := gn; simp [hk] at h; obtain ⟨rfl, rfl, rfl⟩ := h; exact ⟨e, he, hk⟩
  · cases h

/-! ### Reading -/
def Rd (I : Mem) (L : List HP) (b off : Nat) (cs : List Value) : Prop :=
  ∀ (E : Ev) (w : World), Sat E w I L → ∀ j v, cs[j]? = some v → w.cell? ⟨b, off + j, none⟩ = some v
/-- Cells of the immutable heap. -/
def At (I : Mem) (b off : Nat) (cs : List Value) : Prop := ∃ c ty fr, I b = some (.cells c ty fr) ∧ ∀ j v, cs[j]? = some v → c[off + j]? = some v
theorem At.mono {I I' : Mem} {b off : Nat} {cs : List Value} (h : At I b off cs) (hI : I.le I') : At I' b off cs := by
  obtain ⟨c, ty, fr, h1, h2⟩ := h
  exact ⟨c, ty, fr, hI _ _ h1, h2⟩
theorem At.one {I : Mem} {b off : Nat} {cs : List Value} {k : Nat} {v : Value} (h : At I b off cs) (hv : cs[k]? = some v) : At I b (off + k) [v] := by
  obtain ⟨c, ty, fr, h1, h2⟩ := h
  refine ⟨c, ty, fr, h1, fun j u hj => ?_⟩
  cases j with
  | zero => simp at hj; subst hj; exact h2 k _ hv
  | succ j => simp at hj
theorem At.sub {I : Mem} {b off : Nat} {cs vs : List Value} {k : Nat} (n : Nat) (h : At I b off cs) (hv : (cs.drop k).take n = vs) : At I b (off + k) vs := by
  obtain ⟨c, ty, fr, h1, h2⟩ := h
  refine ⟨c, ty, fr, h1, fun j u hj => ?_⟩
  rw [← hv, List.getElem?_take] at hj
  split at hj
  · rw [List.getElem?_drop] at hj; rw [Nat.add_assoc]; exact h2 _ _ hj
  · cases hj
theorem Rd.imm {I : Mem} {L : List HP} {b off : Nat} {cs : List Value} (h : At I b off cs) : Rd I L b off cs := by
  intro E w hw j v hj
  obtain ⟨c, ty, fr, h1, h2⟩ := h
  have := hw.imm _ _ h1
  simp only [World.cell?, this, Option.isSome_none, Bool.false_eq_true, if_false]
  exact h2 j v hj
/-- An owned block of plain cells. -/
def box (b ty : Nat) (cs : List Value) : HP := pt b (.cells cs.toArray ty (0, 0))

theorem pull {α : Type} : ∀ (k : Nat) (L : List α) (p : α), L[k]? = some p → L.Perm (p :: L.eraseIdx k)
  | 0, a :: L, p, h => by simp at h; subst h; exact List.Perm.refl _
  | k + 1, a :: L, p, h => by
    simp only [List.getElem?_cons_succ] at h
    exact ((pull k L p h).cons a).trans (List.Perm.swap _ _ _)
  | k, [], p, h => by simp at h
theorem push_back {α : Type} : ∀ (k : Nat) (L : List α) (p q : α), L[k]? = some p → (q :: L.eraseIdx k).Perm (L.set k q)
  | 0, a :: L, p, q, h => List.Perm.refl _
  | k + 1, a :: L, p, q, h => by
    simp only [List.getElem?_cons_succ] at h
    exact (List.Perm.swap _ _ _).trans ((push_back k L p q h).cons a)
  | k, [], p, q, h => by simp at h

section
variable {E : Ev} {w : World} {I : Mem} {L : List HP}
theorem Sat.lookK {k b : Nat} {o : Obj} (h : Sat E w I L) (hk : L[k]? = some (pt b o)) : w.heap[b]? = some o := (h.perm (pull k L _ hk)).look
theorem Sat.writeK {k b : Nat} {o : Obj} (h : Sat E w I L) (hk : L[k]? = some (pt b o)) (o' : Obj) (heap' : Array Obj) (h1 : heap'[b]? = some o') (h2 : ∀ j, j ≠ b → heap'[j]? = w.heap[j]?) :
    Sat E { w with heap := heap' } I (L.set k (pt b o')) :=
  ((h.perm (pull k L _ hk)).write o' heap' h1 h2).perm (push_back k L _ _ hk)
theorem Sat.freezeK {k b : Nat} {o : Obj} (h : Sat E w I L) (hk : L[k]? = some (pt b o)) : Sat E w (I.ins b o) (L.eraseIdx k) ∧ I.le (I.ins b o) :=
  (h.perm (pull k L _ hk)).freeze
end
theorem Rd.own {I : Mem} {L : List HP} {b ty : Nat} {cs : List Value} (k : Nat) (hk : L[k]? = some (box b ty cs)) (off : Nat) (vs : List Value)
    (hv : ∀ j v, vs[j]? = some v → cs[off + j]? = some v) : Rd I L b off vs := by
  intro E w hw j v hj
  have := hw.lookK hk
  simp only [World.cell?, this, Option.isSome_none, Bool.false_eq_true, if_false]
  simpa using hv j v hj
theorem Rd.own1 {I : Mem} {L : List HP} {b ty off : Nat} {cs : List Value} {v : Value} (k : Nat) (hk : L[k]? = some (box b ty cs)) (hv : cs[off]? = some v) : Rd I L b off [v] :=
  Rd.own k hk off [v] fun j u hj => by
    cases j with
    | zero => simp at hj; subst hj; exact hv
    | succ j => simp at hj
theorem Rd.ownN {I : Mem} {L : List HP} {b ty off : Nat} {cs vs : List Value} (n : Nat) (k : Nat) (hk : L[k]? = some (box b ty cs)) (hv : (cs.drop off).take n = vs) : Rd I L b off vs :=
  Rd.own k hk off vs fun j u hj => by
    rw [← hv, List.getElem?_take] at hj
    split at hj
    · rwa [List.getElem?_drop] at hj
    · cases hj
theorem addr_add (b off j : Nat) : (⟨b, off, none⟩ : Addr).add j = ⟨b, off + j, none⟩ := by
  unfold Addr.add
  split
  · subst_vars; rfl
  · rfl

/-! ### The list of operations -/
section
variable {Γ : Cx} {ops : Array Oper} {rest : List Oper} {ρ : Nat → Value} {I : Mem} {L : List HP} {Q : Post} {ty : TypeId} {ps : String} {af : Array Edge}

/-- In every world that I and L tell of, the operation yields v and does nothing else. -/
def Val (Γ : Cx) (ρ : Nat → Value) (I : Mem) (L : List HP) (op : Op) (ty : TypeId) (v : Value) : Prop :=
  ∀ w, Sat Γ.E w I L → (execOp (ev ρ) { dst := none, op := op, type := ty, pos := "", after := #[], guard := none }).run Γ.P w = .ok (.value v) w
theorem WL.val {d : Nat} {op : Op} {v : Value} (hrun : Val Γ ρ I L op ty v)
    (hd : Nat.blt d Γ.n = true) (next : WL Γ ops rest (upd ρ d v) I L Q) : WL Γ ops ({ dst := some d, op := op, type := ty, pos := ps, after := af, guard := none } :: rest) ρ I L Q := by
  intro a w ha hw
  simp only [wpList, Region.wanted, if_true]
  refine .inl ?_
  unfold Oper.wp
  rw [ha.ev, show (execOp (ev ρ) { dst := some d, op := op, type := ty, pos := ps, after := af, guard := none }).run Γ.P w = .ok (.value v) w from hrun w hw]
  exact next _ w (ha.put hd v) hw
/-- An operation that changes the world. -/
theorem WL.eff {d : Nat} {op : Op} {I' : Mem} {L' : List HP} {v : Value} (hrun : ∀ w, Sat Γ.E w I L → ∃ w', (execOp (ev ρ) { dst := some d, op := op, type := ty, pos := ps, after := af, guard := none }).run Γ.P w = .ok (.value v) w' ∧ Sat Γ.E w' I' L')
    (hd : Nat.blt d Γ.n = true) (next : WL Γ ops rest (upd ρ d v) I' L' Q) : WL Γ ops ({ dst := some d, op := op, type := ty, pos := ps, after := af, guard := none } :: rest) ρ I L Q := by
  intro a w ha hw
  simp only [wpList, Region.wanted, if_true]
  refine .inl ?_
  unfold Oper.wp
  obtain ⟨w', hr, hw'⟩ := hrun w hw
  rw [ha.ev, hr]
  exact next _ w' (ha.put hd v) hw'
/-- One whose value or world is only partly known. -/
theorem WL.effX {d : Nat} {op : Op} (hrun : ∀ w, Sat Γ.E w I L → ∃ v w' I' L', (execOp (ev ρ) { dst := some d, op := op, type := ty, pos := ps, after := af, guard := none }).run Γ.P w = .ok (.value v) w' ∧ Sat Γ.E w' I' L' ∧
      WL Γ ops rest (upd ρ d v) I' L' Q)
    (hd : Nat.blt d Γ.n = true) : WL Γ ops ({ dst := some d, op := op, type := ty, pos := ps, after := af, guard := none } :: rest) ρ I L Q := by
  intro a w ha hw
  simp only [wpList, Region.wanted, if_true]
  refine .inl ?_
  unfold Oper.wp
  obtain ⟨v, w', I', L', hr, hw', next⟩ := hrun w hw
  rw [ha.ev, hr]
  exact next _ w' (ha.put hd v) hw'
/-- One without a slot. -/
theorem WL.effN {op : Op} {I' : Mem} {L' : List HP} (hrun : ∀ w, Sat Γ.E w I L → ∃ w', (execOp (ev ρ) { dst := none, op := op, type := ty, pos := ps, after := af, guard := none }).run Γ.P w = .ok .skip w' ∧ Sat Γ.E w' I' L')
    (next : WL Γ ops rest ρ I' L' Q) : WL Γ ops ({ dst := none, op := op, type := ty, pos := ps, after := af, guard := none } :: rest) ρ I L Q := by
  intro a w ha hw
  simp only [wpList, Region.wanted, if_true]
  refine .inl ?_
  unfold Oper.wp
  obtain ⟨w', hr, hw'⟩ := hrun w hw
  rw [ha.ev, hr]
  exact next _ w' ha hw'

theorem Loc.yield {n : Nat} {ρ : Nat → Value} {a : Act} (ha : Loc n ρ a) {j t : Nat} {b : Bool} (hj : (ops[j]?).bind (·.dst) = some t) (hv : ρ t = .bool b) : yielded ops a.tmps j = some b := by
  have h1 := ha.get t
  rw [hv, Array.getD_eq_getD_getElem?] at h1
  unfold yielded
  rw [hj]
  show (match a.tmps[t]? with | some (.bool b) => some b | _ => none) = some b
  cases hx : a.tmps[t]? with
  | none => rw [hx] at h1; simp [undef] at h1
  | some x => rw [hx] at h1; simp at h1; subst h1; rfl
theorem Loc.yieldU {n : Nat} {ρ : Nat → Value} {a : Act} (ha : Loc n ρ a) {j t : Nat} (hj : (ops[j]?).bind (·.dst) = some t) (hv : ρ t = undef) : yielded ops a.tmps j = none := by
  have h1 := ha.get t
  rw [hv, Array.getD_eq_getD_getElem?] at h1
  unfold yielded
  rw [hj]
  show (match a.tmps[t]? with | some (.bool b) => some b | _ => none) = none
  cases hx : a.tmps[t]? with
  | none => rfl
  | some x => rw [hx] at h1; simp at h1; subst h1; rfl

/-- A guarded operation that is carried out. -/
theorem WL.gT {d : Option Nat} {op : Op} {j t : Nat} {b : Bool} (hj : (ops[j]?).bind (·.dst) = some t) (hv : ρ t = .bool b)
    (next : WL Γ ops ({ dst := d, op := op, type := ty, pos := ps, after := af, guard := none } :: rest) ρ I L Q) :
    WL Γ ops ({ dst := d, op := op, type := ty, pos := ps, after := af, guard := some (j, b) } :: rest) ρ I L Q := by
  intro a w ha hw
  have hy := ha.yield hj hv
  have h := next a w ha hw
  simp only [wpList, Region.wanted, if_true, hy, beq_self_eq_true] at h ⊢
  exact h
/-- One that is passed over. -/
theorem WL.gF {d : Nat} {op : Op} {j t : Nat} {b c : Bool} (hj : (ops[j]?).bind (·.dst) = some t) (hv : ρ t = .bool c) (hbc : (c == b) = false) (hd : Nat.blt d Γ.n = true)
    (next : WL Γ ops rest (upd ρ d undef) I L Q) :
    WL Γ ops ({ dst := some d, op := op, type := ty, pos := ps, after := af, guard := some (j, b) } :: rest) ρ I L Q := by
  intro a w ha hw
  have hy := ha.yield hj hv
  have hne : (some c == some b) = false := by simpa using hbc
  simp only [wpList, Region.wanted, hy, hne, Bool.false_eq_true, if_false]
  exact next _ w (ha.put hd undef) hw
theorem WL.gU {d : Nat} {op : Op} {j t : Nat} {b : Bool} (hj : (ops[j]?).bind (·.dst) = some t) (hv : ρ t = undef) (hd : Nat.blt d Γ.n = true)
    (next : WL Γ ops rest (upd ρ d undef) I L Q) :
    WL Γ ops ({ dst := some d, op := op, type := ty, pos := ps, after := af, guard := some (j, b) } :: rest) ρ I L Q := by
  intro a w ha hw
  have hy := ha.yieldU hj hv
  have hne : ((none : Option Bool) == some b) = false := rfl
  simp only [wpList, Region.wanted, hy, hne, Bool.false_eq_true, if_false]
  exact next _ w (ha.put hd undef) hw

theorem Val.move {x : Operand} : Val Γ ρ I L (.move x) ty (ev ρ x) := fun w _ => rfl
theorem Val.assign {x : Operand} : Val Γ ρ I L (.assign x) ty ((ev ρ x)) :=
  fun w _ => rfl
theorem Val.moveI {x : Operand} {k : IntKind} {m : Int} (h : ev ρ x = .int k m) : Val Γ ρ I L (.move x) ty (.int k m) := fun w _ => by rw [← h]; rfl
theorem Val.moveP {x : Operand} {p : Option Addr} (h : ev ρ x = .pointer p) : Val Γ ρ I L (.move x) ty (.pointer p) := fun w _ => by rw [← h]; rfl
theorem Val.moveB {x : Operand} {b : Bool} (h : ev ρ x = .bool b) : Val Γ ρ I L (.move x) ty (.bool b) := fun w _ => by rw [← h]; rfl
theorem Val.moveS {x : Operand} {p : Option Addr} {m n : Nat} (h : ev ρ x = .slice p m n) : Val Γ ρ I L (.move x) ty (.slice p m n) := fun w _ => by rw [← h]; rfl
theorem Val.moveA {x : Operand} {cs : Array Value} (h : ev ρ x = .agg cs) : Val Γ ρ I L (.move x) ty (.agg cs) := fun w _ => by rw [← h]; rfl
theorem Val.moveF {x : Operand} {f : Go.Fn} {p q : Array Value} (h : ev ρ x = .func f p q) : Val Γ ρ I L (.move x) ty (.func f p q) := fun w _ => by rw [← h]; rfl
theorem Val.moveT {x : Operand} {cs : Array Value} (h : ev ρ x = .tuple cs) : Val Γ ρ I L (.move x) ty (.tuple cs) := fun w _ => by rw [← h]; rfl
theorem Val.assignI {x : Operand} {k : IntKind} {m : Int} (h : ev ρ x = .int k m) : Val Γ ρ I L (.assign x) ty (.int k m) := fun w _ => by rw [← h]; rfl
theorem Val.assignP {x : Operand} {p : Option Addr} (h : ev ρ x = .pointer p) : Val Γ ρ I L (.assign x) ty (.pointer p) := fun w _ => by rw [← h]; rfl
theorem Val.assignB {x : Operand} {b : Bool} (h : ev ρ x = .bool b) : Val Γ ρ I L (.assign x) ty (.bool b) := fun w _ => by rw [← h]; rfl
theorem Val.assignS {x : Operand} {p : Option Addr} {m n : Nat} (h : ev ρ x = .slice p m n) : Val Γ ρ I L (.assign x) ty (.slice p m n) := fun w _ => by rw [← h]; rfl
theorem Val.assignA {x : Operand} {cs : Array Value} (h : ev ρ x = .agg cs) : Val Γ ρ I L (.assign x) ty (.agg cs) := fun w _ => by rw [← h]; rfl
theorem Val.assignF {x : Operand} {f : Go.Fn} {p q : Array Value} (h : ev ρ x = .func f p q) : Val Γ ρ I L (.assign x) ty (.func f p q) := fun w _ => by rw [← h]; rfl
theorem Val.assignT {x : Operand} {cs : Array Value} (h : ev ρ x = .tuple cs) : Val Γ ρ I L (.assign x) ty (.tuple cs) := fun w _ => by rw [← h]; rfl
theorem Val.pick {c x y : Operand} {b : Bool} (hc : ev ρ c = .bool b) : Val Γ ρ I L (.pick c x y) ty ((bif b then ev ρ x else ev ρ y)) :=
  fun w _ => by simp only [execOp, hc]; cases b <;> rfl
theorem Val.not {t : Nat} {x : Operand} {b : Bool} (hx : ev ρ x = .bool b) : Val Γ ρ I L (.unOp .not t x) ty ((.bool (!b))) :=
  fun w _ => by simp only [execOp, hx]; rfl
theorem Val.neg {t : Nat} {x : Operand} {k : IntKind} {n z : Int} (hx : ev ρ x = .int k n) (hz : k.wrap (0 - n) = z) : Val Γ ρ I L (.unOp .neg t x) ty ((.int k z)) :=
  fun w _ => by simp only [execOp, hx]; subst hz; rfl
theorem Val.extract {x : Operand} {vs : List Value} {i : Nat} {v : Value} (hx : ev ρ x = .tuple vs.toArray) (hv : vs[i]? = some v) : Val Γ ρ I L (.extract x i) ty (v) :=
  fun w _ => by
    have h1 : (vs.toArray)[i]? = some v := by simpa using hv
    simp only [execOp, hx, Instr.extract, h1]; rfl
theorem Val.extractI {x : Operand} {vs : List Value} {i : Nat} {k : IntKind} {m : Int} (hx : ev ρ x = .tuple vs.toArray) (hv : vs[i]? = some (.int k m)) : Val Γ ρ I L (.extract x i) ty (.int k m) := Val.extract hx hv
theorem Val.extractP {x : Operand} {vs : List Value} {i : Nat} {p : Option Addr} (hx : ev ρ x = .tuple vs.toArray) (hv : vs[i]? = some (.pointer p)) : Val Γ ρ I L (.extract x i) ty (.pointer p) := Val.extract hx hv
theorem Val.extractB {x : Operand} {vs : List Value} {i : Nat} {b : Bool} (hx : ev ρ x = .tuple vs.toArray) (hv : vs[i]? = some (.bool b)) : Val Γ ρ I L (.extract x i) ty (.bool b) := Val.extract hx hv
theorem Val.extractS {x : Operand} {vs : List Value} {i : Nat} {p : Option Addr} {m n : Nat} (hx : ev ρ x = .tuple vs.toArray) (hv : vs[i]? = some (.slice p m n)) : Val Γ ρ I L (.extract x i) ty (.slice p m n) := Val.extract hx hv
theorem Val.extractA {x : Operand} {vs : List Value} {i : Nat} {cs : Array Value} (hx : ev ρ x = .tuple vs.toArray) (hv : vs[i]? = some (.agg cs)) : Val Γ ρ I L (.extract x i) ty (.agg cs) := Val.extract hx hv
theorem Val.nilCheckP {x : Operand} {a : Addr} (hx : ev ρ x = .pointer (some a)) : Val Γ ρ I L (.nilCheck x) ty ((.pointer (some a))) :=
  fun w _ => by simp only [execOp, hx]; rfl
theorem Val.nilCheckF {x : Operand} {f : FuncId} {p q : Array Value} (hx : ev ρ x = .func (.func f) p q) : Val Γ ρ I L (.nilCheck x) ty ((.func (.func f) p q)) :=
  fun w _ => by simp only [execOp, hx]; rfl
theorem Val.makeFunc {fn : Fn} {p q : Array Operand} : Val Γ ρ I L (.makeFunc fn p q) ty ((.func fn (p.map (ev ρ)) (q.map (ev ρ)))) :=
  fun w _ => rfl

/-! memory -/
theorem Val.loadS {t b off : Nat} {x : Operand} {v : Value} [hk : TyK Γ.P t false 1] (hx : ev ρ x = .pointer (some ⟨b, off, none⟩)) (hr : Rd I L b off [v]) : Val Γ ρ I L (.load t x) ty (v) :=
  fun w hw => by
    have h := hr Γ.E w hw 0 v rfl
    simp only [execOp, hx, Instr.loadAt, Instr.sureAddr, pure_bind, loadVar, Sem.run_bind, TyK.agg hk.is, Result.andThen_ok, Bool.false_eq_true, if_false]
    simp only [load, Sem.run, Nat.add_zero] at h ⊢
    simp only [h]; rfl
theorem Val.loadA {t b off n : Nat} {x : Operand} {cs : List Value} [hk : TyK Γ.P t true n] (hx : ev ρ x = .pointer (some ⟨b, off, none⟩)) (hr : Rd I L b off cs) (hn : cs.length = n) : Val Γ ρ I L (.load t x) ty ((.agg cs.toArray)) :=
  fun w hw => by
    have h := run_loadCells_list (P := Γ.P) w ⟨b, off, none⟩ cs (fun j v hj => by rw [addr_add]; exact hr Γ.E w hw j v hj)
    rw [hn] at h
    simp only [execOp, hx, Instr.loadAt, Instr.sureAddr, pure_bind, loadVar, Sem.run_bind, TyK.agg hk.is, TyK.size hk.is, Result.andThen_ok, if_true, h]
    rfl

theorem Val.loadO {t b off n bt : Nat} {x : Operand} {cs : List Value} (k : Nat) [hk : TyK Γ.P t true n] (hx : ev ρ x = .pointer (some ⟨b, off, none⟩)) (hL : L[k]? = some (box b bt cs)) (hc : Nat.ble (off + n) cs.length = true) :
    Val Γ ρ I L (.load t x) ty (.agg ((cs.drop off).take n).toArray) :=
  Val.loadA hx (Rd.ownN n k hL rfl) (by have := Nat.le_of_ble_eq_true hc; simp; omega)
theorem Val.loadI {t b off n : Nat} {x : Operand} {cs : List Value} [hk : TyK Γ.P t true n] (hx : ev ρ x = .pointer (some ⟨b, off, none⟩)) (h : At I b off cs) (hc : Nat.beq cs.length n = true) :
    Val Γ ρ I L (.load t x) ty (.agg cs.toArray) :=
  Val.loadA hx (Rd.imm h) (Nat.eq_of_beq_eq_true hc)
theorem pop_push (w : World) (o : Obj) : ({ w with heap := w.heap.push o } : World) = w.alloc o := rfl
theorem run_newVar (P : Program) (t : TypeId) (v : Value) (w : World) : (newVar t v).run P w = .ok ⟨w.heap.size, 0, none⟩ { w with heap := w.heap.push (.cells v.cells t (0, 0)) } := rfl
theorem WL.alloc {d t : Nat} {zs : List Value} [hz : ZeroK Γ.P t zs] (hd : Nat.blt d Γ.n = true)
    (next : ∀ g, WL Γ ops rest (upd ρ d (.pointer (some ⟨g, 0, none⟩))) I (L ++ [box g t zs]) Q) : WL Γ ops ({ dst := some d, op := .alloc t, type := ty, pos := ps, after := af, guard := none } :: rest) ρ I L Q :=
  WL.effX (fun w hw => by
    obtain ⟨z, h1, h2⟩ := ZeroK.run hz.is w
    refine ⟨.pointer (some ⟨w.heap.size, 0, none⟩), _, I, _, ?_, hw.alloc (.cells zs.toArray t (0, 0)), next _⟩
    simp only [execOp, Instr.alloc, Sem.run_bind, h1, Result.andThen_ok, run_newVar, h2]
    rfl) hd
theorem WL.box {d t : Nat} {x : Operand} {cs : List Value} (hx : (ev ρ x).cells = cs.toArray) (hd : Nat.blt d Γ.n = true)
    (next : ∀ g, WL Γ ops rest (upd ρ d (.pointer (some ⟨g, 0, none⟩))) I (L ++ [Sl.box g t cs]) Q) : WL Γ ops ({ dst := some d, op := .box t x, type := ty, pos := ps, after := af, guard := none } :: rest) ρ I L Q :=
  WL.effX (fun w hw => by
    refine ⟨.pointer (some ⟨w.heap.size, 0, none⟩), _, I, _, ?_, hw.alloc (.cells cs.toArray t (0, 0)), next _⟩
    simp only [execOp, Instr.box, Sem.run_bind, Result.andThen_ok, run_newVar, hx]
    rfl) hd

def splice (cs : List Value) (off : Nat) (vs : List Value) : List Value := cs.take off ++ vs ++ cs.drop (off + vs.length)
theorem splice_length {cs vs : List Value} {off : Nat} (h : off + vs.length ≤ cs.length) : (splice cs off vs).length = cs.length := by
  simp [splice]; omega
theorem run_storeVar {P : Program} {t b off n : Nat} {g : Bool} {v : Value} {vs cs : List Value} {bt : Nat} (hk : tyk P t = some (g, n)) (hv : v.cells = vs.toArray) (hn : vs.length = n) (h1 : vs.all Value.oneCell' = true)
    (hb : Nat.ble (off + vs.length) cs.length = true) (w : World) (hg : w.heap[b]? = some (.cells cs.toArray bt (0, 0))) :
    (storeVar t ⟨b, off, none⟩ v).run P w = .ok () (w.setRow b (splice cs off vs).toArray) := by
  have h := run_storeCells_at (P := P) b off bt vs 0 cs.toArray w hg (by have := Nat.le_of_ble_eq_true hb; simpa using this) (fun v hv => (List.all_eq_true.1 h1) v hv)
  unfold storeVar
  simp only [Sem.run_bind, TyK.size hk, Result.andThen_ok, hv, List.size_toArray, hn, ne_eq, not_true_eq_false, if_false, pure_bind]
  simpa [splice, Nat.add_zero] using h
theorem setRow_sat {E : Ev} {w : World} {I : Mem} {L : List HP} {k b t : Nat} {cs : List Value} (hw : Sat E w I L) (hk : L[k]? = some (box b t cs)) (cs' : List Value) : Sat E (w.setRow b cs'.toArray) I (L.set k (box b t cs')) := by
  have hl := hw.lookK hk
  refine hw.writeK hk (.cells cs'.toArray t (0, 0)) _ ?_ ?_
  · simp only [Array.getElem?_modify, hl]; simp
  · intro j hj; simp only [Array.getElem?_modify]; rw [if_neg (by omega)]
def storeOk (vs : List Value) (n off len : Nat) : Bool := Nat.beq vs.length n && vs.all Value.oneCell' && Nat.ble (off + vs.length) len
theorem WL.store {t b off n : Nat} {g : Bool} {x y : Operand} {cs : List Value} {bt : Nat} (k : Nat) [hk : TyK Γ.P t g n] (hx : ev ρ x = .pointer (some ⟨b, off, none⟩)) (hL : L[k]? = some (Sl.box b bt cs))
    (hc : storeOk (ev ρ y).cells.toList n off cs.length = true)
    (next : WL Γ ops rest ρ I (L.set k (Sl.box b bt (splice cs off (ev ρ y).cells.toList))) Q) : WL Γ ops ({ dst := none, op := .store t x y, type := ty, pos := ps, after := af, guard := none } :: rest) ρ I L Q :=
  WL.effN (fun w hw => by
    simp only [storeOk, Bool.and_eq_true] at hc
    have hn := Nat.eq_of_beq_eq_true hc.1.1
    exact ⟨_, by
      simp only [execOp, hx, Instr.storeAt, Instr.sureAddr, pure_bind, Sem.run_bind, run_storeVar (v := ev ρ y) (vs := (ev ρ y).cells.toList) hk.is (by simp) hn hc.1.2 hc.2 w (hw.lookK hL), Result.andThen_ok]; rfl, setRow_sat hw hL _⟩) next

theorem Val.fieldAddr {s f b off o n : Nat} {g : Bool} {x : Operand} [hk : FldK Γ.P s f o g n] (hx : ev ρ x = .pointer (some ⟨b, off, none⟩)) :
    Val Γ ρ I L (.fieldAddr s x f) ty (.pointer (some ⟨b, off + o, none⟩)) :=
  fun w hw => by
    obtain ⟨fs, fx, h1, h2, h3, h4, h5⟩ := FldK.und hk.is
    simp only [execOp, hx, Instr.fieldAt, Sem.run_bind, run_underlying h1, Result.andThen_ok, h2, Instr.sureAddr, pure_bind, fieldPlace, TyK.size h4, h5, if_false, addr_add, h3]
    rfl
theorem run_partS {P : Program} {t n : Nat} (hk : tyk P t = some (false, n)) {cs : Array Value} {off : Nat} {v : Value} (hv : cs[off]? = some v) (w : World) : (part t cs off).run P w = .ok v w := by
  simp only [part, Sem.run_bind, TyK.agg hk, Result.andThen_ok, Bool.false_eq_true, if_false, hv]; rfl
theorem run_partA {P : Program} {t n : Nat} (hk : tyk P t = some (true, n)) {cs : Array Value} {off : Nat} (w : World) : (part t cs off).run P w = .ok (.agg (cs.extract off (off + n))) w := by
  simp only [part, Sem.run_bind, TyK.agg hk, TyK.size hk, Result.andThen_ok, if_true]; rfl
theorem Val.fieldS {s f o n : Nat} {x : Operand} {cs : List Value} {v : Value} [hk : FldK Γ.P s f o false n] (hx : ev ρ x = .agg cs.toArray) (hv : cs[o]? = some v) : Val Γ ρ I L (.field s x f) ty (v) :=
  fun w hw => by
    obtain ⟨fs, fx, h1, h2, h3, h4, h5⟩ := FldK.und hk.is
    subst h3
    simp only [execOp, hx, Instr.field, Sem.run_bind, run_underlying h1, Result.andThen_ok, h2, asAgg, pure_bind, run_partS h4 (show cs.toArray[fx.offset]? = some v by simpa using hv)]
    rfl
theorem Val.fieldA {s f o n : Nat} {x : Operand} {cs vs : List Value} [hk : FldK Γ.P s f o true n] (hx : ev ρ x = .agg cs.toArray) (hv : (cs.drop o).take n = vs) : Val Γ ρ I L (.field s x f) ty ((.agg vs.toArray)) :=
  fun w hw => by
    obtain ⟨fs, fx, h1, h2, h3, h4, h5⟩ := FldK.und hk.is
    subst h3
    have he : cs.toArray.extract fx.offset (fx.offset + n) = vs.toArray := by
      rw [← hv]; apply Array.ext'; simp
    simp only [execOp, hx, Instr.field, Sem.run_bind, run_underlying h1, Result.andThen_ok, h2, asAgg, pure_bind, run_partA h4, he]
    rfl
theorem Val.indexAddr {t e n b off len cap : Nat} {x i : Operand} {k : IntKind} {j : Int} [hk : SlK Γ.P t e n] (hx : ev ρ x = .slice (some ⟨b, off, none⟩) len cap) (hi : ev ρ i = .int k j) (h0 : 0 ≤ j) (h1 : j < len) : Val Γ ρ I L (.indexAddr t x i) ty ((.pointer (some ⟨b, off + j.toNat * n, none⟩))) :=
  fun w hw => by
    obtain ⟨hu, ie, hie, hn⟩ := SlK.und hk.is
    have hs : (sizeOf e).run Γ.P w = .ok n w := by rw [run_sizeOf w hie]; simp [Program.cellsOf, hie, hn]
    simp only [execOp, hx, hi, Instr.indexAt, asIntOf, pure_bind, Sem.run_bind, run_underlying hu, Result.andThen_ok]
    simp only [Sem.run_bind, pure_bind, run_underlying hu, Result.andThen_ok, h0, h1, and_self, if_true, hs, addr_add]
    simp
theorem Val.indexAddrA {t l n b off : Nat} {g : Bool} {x i : Operand} {k : IntKind} {j : Int} [hk : ArK Γ.P t l g n] (hx : ev ρ x = .pointer (some ⟨b, off, none⟩)) (hi : ev ρ i = .int k j) (h0 : 0 ≤ j) (h1 : j < l) : Val Γ ρ I L (.indexAddr t x i) ty ((.pointer (some ⟨b, off + j.toNat * n, none⟩))) :=
  fun w hw => by
    obtain ⟨e, hu, he⟩ := ArK.und hk.is
    simp only [execOp, hx, hi, Instr.indexAt, asIntOf, pure_bind, Sem.run_bind, run_underlying hu, Result.andThen_ok, Instr.sureAddr]
    simp only [Sem.run_bind, pure_bind, run_underlying hu, Result.andThen_ok, h0, h1, and_self, if_true, TyK.size he, addr_add]
    simp
end
end Go.Sl
