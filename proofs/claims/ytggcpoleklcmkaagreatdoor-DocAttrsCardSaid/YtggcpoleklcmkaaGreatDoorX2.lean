/-
  '==' of structs and arrays of numbers and bools.
-/
import Derived.Test.YtggcpoleklcmkaaGreatDoorX1
import Derived.Laws.StructEq
import Derived.ChangeKeysEq
import Derived.Laws.BytesString
import Derived.Below
namespace Go.Sl
set_option linter.unusedVariables false
set_option linter.unusedSimpArgs false
open Go.RowKit

/-- The kinds of a value's cells: numbers, bools. -/
inductive CK where
  | i (k : IntKind)
  | b
  deriving DecidableEq
def CK.ok : CK → Value → Bool
  | .i k, .int k' _ => decide (k = k')
  | .b, .bool _ => true
  | _, _ => false
def wfC : List CK → List Value → Bool
  | [], [] => true
  | k :: ks, v :: vs => k.ok v && wfC ks vs
  | _, _ => false
def cellEq : Value → Value → Bool
  | .int _ a, .int _ b => a == b
  | .bool a, .bool b => a == b
  | _, _ => false
def cellsEq : List Value → List Value → Bool
  | x :: xs, y :: ys => cellEq x y && cellsEq xs ys
  | _, _ => true
theorem wfC_len : ∀ {ks : List CK} {vs : List Value}, wfC ks vs = true → vs.length = ks.length
  | [], [], _ => rfl
  | k :: ks, v :: vs, h => by simp [wfC] at h; simp [wfC_len h.2]
  | [], _ :: _, h => by simp [wfC] at h
  | _ :: _, [], h => by simp [wfC] at h
theorem wfC_int {k : IntKind} {vs : List Value} (h : wfC [.i k] vs = true) : ∃ a, vs = [.int k a] := by
  have hl := wfC_len h
  cases vs with
  | nil => simp at hl
  | cons v vs =>
    simp at hl; subst hl
    simp [wfC] at h
    cases v <;> simp [CK.ok] at h
    subst h; exact ⟨_, rfl⟩
theorem wfC_bool {vs : List Value} (h : wfC [.b] vs = true) : ∃ a, vs = [.bool a] := by
  have hl := wfC_len h
  cases vs with
  | nil => simp at hl
  | cons v vs =>
    simp at hl; subst hl
    simp [wfC] at h
    cases v <;> simp [CK.ok] at h
    exact ⟨_, rfl⟩
theorem wfC_append : ∀ {ks ks' : List CK} {vs : List Value}, wfC (ks ++ ks') vs = true → wfC ks (vs.take ks.length) = true ∧ wfC ks' (vs.drop ks.length) = true
  | [], ks', vs, h => by simpa [wfC] using h
  | k :: ks, ks', v :: vs, h => by
    simp [wfC] at h ⊢
    exact ⟨⟨h.1, (wfC_append h.2).1⟩, (wfC_append h.2).2⟩
  | k :: ks, ks', [], h => by simp [wfC] at h
theorem cellsEq_split : ∀ (n : Nat) (xs ys : List Value), xs.length = ys.length → cellsEq xs ys = (cellsEq (xs.take n) (ys.take n) && cellsEq (xs.drop n) (ys.drop n))
  | 0, xs, ys, h => by simp [cellsEq]
  | n + 1, [], [], h => by simp [cellsEq]
  | n + 1, x :: xs, y :: ys, h => by
    simp at h
    simp only [List.take_succ_cons, List.drop_succ_cons, cellsEq, Bool.and_assoc]
    rw [cellsEq_split n xs ys h]
  | n + 1, [], y :: ys, h => by simp at h
  | n + 1, x :: xs, [], h => by simp at h

def eqfields (P : Program) (rc : TypeId → Option (List CK)) : Nat → List Field → Option (List CK)
  | _, [] => some []
  | off, f :: fs =>
    if f.name = "_" ∨ f.offset ≠ off then none else
    match rc f.type, P.info? f.type with
    | some ks, some i => if i.size = ks.length then (eqfields P rc (off + ks.length) fs).map (ks ++ ·) else none
    | _, _ => none
def eqflat (P : Program) : Nat → TypeId → Option (List CK)
  | 0, _ => none
  | d + 1, t =>
    match P.underlying t, P.info? t with
    | some (.int k), some i => if i.size = 1 then some [.i k] else none
    | some .bool, some i => if i.size = 1 then some [.b] else none
    | some (.struct fs), some i => if P.stoodInHeld t then none else eqfields P (eqflat P d) 0 fs.toList
    | some (.array n e), some _ => match eqflat P d e, P.info? e with
      | some ks, some i => if i.size = ks.length then some (List.replicate n ks).flatten else none
      | _, _ => none
    | _, _ => none

/-- A value of type t with these cells. -/
def valOf (P : Program) (t : TypeId) (vs : List Value) : Value :=
  match P.underlying t with
  | some (.struct _) | some (.array _ _) => .agg vs.toArray
  | _ => vs.headD undef

theorem run_part_valOf {P : Program} {t : TypeId} {i : TypeInfo} {d : TypeDesc} (hd : P.underlying t = some d) (hi : P.info? t = some i) (hs : 0 < i.size ∨ (∃ fs, d = .struct fs) ∨ (∃ n e, d = .array n e)) (cs : List Value) (off : Nat) (h : off + i.size ≤ cs.length) (w : World) :
    (part t cs.toArray off).run P w = .ok (valOf P t ((cs.drop off).take i.size)) w := by
  have hz : (sizeOf t).run P w = .ok i.size w := by rw [run_sizeOf w hi]; simp [Program.cellsOf, hi]
  have agg : (cs.toArray.extract off (off + i.size)) = ((cs.drop off).take i.size).toArray := by
    apply Array.ext'; simp
  unfold part isAgg valOf
  simp only [Sem.run_bind, run_underlying hd, Result.andThen_ok]
  cases d
  case struct fs => rw [hd]; simp only [pure_bind, Sem.run_pure, Result.andThen_ok, if_true, Sem.run_bind, hz, agg]
  case array n e => rw [hd]; simp only [pure_bind, Sem.run_pure, Result.andThen_ok, if_true, Sem.run_bind, hz, agg]
  all_goals
    rw [hd]
    simp only [Sem.run_pure, Result.andThen_ok, Bool.false_eq_true, if_false]
    have h0 : 0 < i.size := by
      rcases hs with h | ⟨_, h⟩ | ⟨_, _, h⟩
      · exact h
      · cases h
      · cases h
    have hlt : off < cs.length := by omega
    have : cs.toArray[off]? = some cs[off] := by simp [hlt]
    simp only [this]
    rw [List.drop_eq_getElem_cons hlt]
    obtain ⟨n, hn⟩ : ∃ n, i.size = n + 1 := ⟨i.size - 1, by omega⟩
    rw [hn, List.take_succ_cons]
    rfl

theorem eqflat_size {P : Program} {d : Nat} {t : TypeId} {ks : List CK} (h : eqflat P d t = some ks) : ∃ x i, P.underlying t = some x ∧ P.info? t = some i ∧ ((∃ k, x = .int k ∧ ks = [.i k] ∧ i.size = 1) ∨ (x = .bool ∧ ks = [.b] ∧ i.size = 1) ∨ (∃ fs, x = .struct fs) ∨ (∃ n e, x = .array n e)) := by
  cases d with
  | zero => simp [eqflat] at h
  | succ d =>
    simp only [eqflat] at h
    split at h
    · rename_i k i h1 h2
      split at h
      · simp at h; exact ⟨_, _, h1, h2, .inl ⟨k, rfl, h.symm, by assumption⟩⟩
      · cases h
    · rename_i i h1 h2
      split at h
      · simp at h; exact ⟨_, _, h1, h2, .inr (.inl ⟨rfl, h.symm, by assumption⟩)⟩
      · cases h
    · rename_i fs i h1 h2; exact ⟨_, _, h1, h2, .inr (.inr (.inl ⟨fs, rfl⟩))⟩
    · rename_i n e i h1 h2; exact ⟨_, _, h1, h2, .inr (.inr (.inr ⟨n, e, rfl⟩))⟩
    · cases h

def EqOk (P : Program) (d : Nat) : Prop := ∀ (t : TypeId) (ks : List CK), eqflat P d t = some ks → ∀ (D : Nat) (xs ys : List Value), wfC ks xs = true → wfC ks ys = true → ∀ w, (Op.equalIn (d + D) t (valOf P t xs) (valOf P t ys)).run P w = .ok (cellsEq xs ys) w
theorem fields_sound (P : Program) (d : Nat) (first : EqOk P d) : ∀ (fs : List Field) (off : Nat) (ks : List CK), eqfields P (eqflat P d) off fs = some ks → ∀ (D : Nat) (pre pre' xs ys : List Value), pre.length = off → pre'.length = off → wfC ks xs = true → wfC ks ys = true → ∀ w,
      (Op.eqFields (d + D) (pre ++ xs).toArray (pre' ++ ys).toArray fs).run P w = .ok (cellsEq xs ys) w := by
  intro fs
  induction fs with
  | nil =>
    intro off ks h D pre pre' xs ys hp hp' hx hy w
    simp [eqfields] at h; subst h
    have := wfC_len hx; have := wfC_len hy; simp at *
    subst_vars; simp [Op.eqFields, cellsEq]
  | cons f fs ihf =>
    intro off ks h D pre pre' xs ys hp hp' hx hy w
    simp only [eqfields] at h
    split at h
    · cases h
    · rename_i hn
      simp only [not_or, Decidable.not_not] at hn
      split at h
      · rename_i ks' i' h3 h4
        split at h
        · rename_i hsz
          simp only [Option.map_eq_some_iff] at h
          obtain ⟨ks2, hk2, rfl⟩ := h
          obtain ⟨hx1, hx2⟩ := wfC_append hx
          obtain ⟨hy1, hy2⟩ := wfC_append hy
          have lx := wfC_len hx; have ly := wfC_len hy
          have lx1 := wfC_len hx1; have ly1 := wfC_len hy1
          simp only [List.length_append] at lx ly
          obtain ⟨x, ii, q1, q2, q3⟩ := eqflat_size h3
          have hii : ii = i' := by rw [h4] at q2; exact (Option.some.inj q2).symm
          subst hii
          have hs : 0 < ii.size ∨ (∃ fs, x = .struct fs) ∨ (∃ n e, x = .array n e) := by
            rcases q3 with ⟨_, _, _, h⟩ | ⟨_, _, h⟩ | h | h
            · exact .inl (by omega)
            · exact .inl (by omega)
            · exact .inr (.inl h)
            · exact .inr (.inr h)
          have p1 := run_part_valOf q1 q2 hs (pre ++ xs) f.offset (by simp; omega) w
          have p2 := run_part_valOf q1 q2 hs (pre' ++ ys) f.offset (by simp; omega) w
          rw [hn.2, ← hp, List.drop_left, hsz] at p1
          rw [hn.2, ← hp', List.drop_left, hsz] at p2
          rw [hp] at p1; rw [hp'] at p2
          have p3 := first f.type ks' h3 D _ _ hx1 hy1 w
          simp only [Op.eqFields, hn.1, ne_eq, not_false_eq_true, if_true, Sem.run_bind, hn.2, p1, p2, p3, Result.andThen_ok]
          rw [cellsEq_split ks'.length xs ys (by omega)]
          cases hq : cellsEq (xs.take ks'.length) (ys.take ks'.length)
          · simp
          · simp only [Bool.not_true, Bool.false_eq_true, if_false, Bool.true_and]
            have := ihf (off + ks'.length) ks2 hk2 D (pre ++ xs.take ks'.length) (pre' ++ ys.take ks'.length) (xs.drop ks'.length) (ys.drop ks'.length) (by simp; omega) (by simp; omega) hx2 hy2 w
            simpa [List.append_assoc] using this
        · cases h
      · cases h
theorem eq_sound (P : Program) : ∀ (d : Nat), EqOk P d := by
  intro d
  induction d with
  | zero => exact fun t ks h => by simp [eqflat] at h
  | succ d ih =>
    intro t ks h D xs ys hx hy w
    have e : d + 1 + D = (d + D) + 1 := by omega
    rw [e]
    simp only [eqflat] at h
    split at h
    · rename_i k i h1 h2
      split at h
      · simp at h; subst h
        obtain ⟨a, rfl⟩ := wfC_int hx
        obtain ⟨b, rfl⟩ := wfC_int hy
        simp only [valOf, h1, List.headD_cons, cellsEq, cellEq, Bool.and_true]
        exact run_equalIn_int w _ _ _ _ _ _ h1
      · cases h
    · rename_i i h1 h2
      split at h
      · simp at h; subst h
        obtain ⟨a, rfl⟩ := wfC_bool hx
        obtain ⟨b, rfl⟩ := wfC_bool hy
        simp only [valOf, h1, List.headD_cons, cellsEq, cellEq, Bool.and_true]
        exact run_equalInB h1 _ _ _ _
      · cases h
    · rename_i fs i h1 h2
      split at h
      · cases h
      · rename_i hst
        have hf : P.fieldsOf t = fs := by simp [Program.fieldsOf, h1]
        simp only [valOf, h1]
        rw [run_equalIn_struct w _ _ _ _ (by rw [hf]; exact h1) (by simpa using hst), hf]
        exact fields_sound P d ih fs.toList 0 ks h D [] [] xs ys rfl rfl hx hy w
    · rename_i n e i h1 h2
      split at h
      · rename_i ks' i' h3 h4
        split at h
        · rename_i hsz
          simp at h
          simp only [valOf, h1]
          rw [run_equalIn_array w _ _ _ h1 h4]
          have hc : P.cellsOf e = ks'.length := by simp [Program.cellsOf, h4, hsz]
          rw [hc]
          -- the elements one by one
          have key : ∀ (m k : Nat) (pre pre' xs ys : List Value), pre.length = k * ks'.length → pre'.length = k * ks'.length → wfC (List.replicate m ks').flatten xs = true → wfC (List.replicate m ks').flatten ys = true → ∀ w,
              (Op.eqItems (d + D) e ks'.length (pre ++ xs).toArray (pre' ++ ys).toArray (List.range' k m)).run P w = .ok (cellsEq xs ys) w := by
            intro m
            induction m with
            | zero =>
              intro k pre pre' xs ys _ _ hx hy w
              have := wfC_len hx; have := wfC_len hy; simp at *
              subst_vars; simp [Op.eqItems, cellsEq]
            | succ m ihm =>
              intro k pre pre' xs ys hp hp' hx hy w
              rw [List.replicate_succ, List.flatten_cons] at hx hy
              obtain ⟨hx1, hx2⟩ := wfC_append hx
              obtain ⟨hy1, hy2⟩ := wfC_append hy
              have lx := wfC_len hx; have ly := wfC_len hy
              have lx1 := wfC_len hx1; have ly1 := wfC_len hy1
              simp only [List.length_append] at lx ly
              obtain ⟨x, ii, q1, q2, q3⟩ := eqflat_size h3
              have hii : ii = i' := by rw [h4] at q2; exact (Option.some.inj q2).symm
              subst hii
              have hs : 0 < ii.size ∨ (∃ fs, x = .struct fs) ∨ (∃ n e, x = .array n e) := by
                rcases q3 with ⟨_, _, _, h⟩ | ⟨_, _, h⟩ | h | h
                · exact .inl (by omega)
                · exact .inl (by omega)
                · exact .inr (.inl h)
                · exact .inr (.inr h)
              have p1 := run_part_valOf q1 q2 hs (pre ++ xs) (k * ks'.length) (by simp; omega) w
              have p2 := run_part_valOf q1 q2 hs (pre' ++ ys) (k * ks'.length) (by simp; omega) w
              rw [← hp, List.drop_left, hsz] at p1
              rw [← hp', List.drop_left, hsz] at p2
              rw [hp] at p1; rw [hp'] at p2
              have p3 := (ih e ks' h3 D _ _ hx1 hy1 w)
              rw [List.range'_succ]
              simp only [Op.eqItems, Sem.run_bind, p1, p2, p3, Result.andThen_ok]
              rw [cellsEq_split ks'.length xs ys (by omega)]
              cases hq : cellsEq (xs.take ks'.length) (ys.take ks'.length)
              · simp
              · simp only [Bool.not_true, Bool.false_eq_true, if_false, Bool.true_and]
                have := ihm (k + 1) (pre ++ xs.take ks'.length) (pre' ++ ys.take ks'.length) (xs.drop ks'.length) (ys.drop ks'.length) (by simp [Nat.succ_mul]; omega) (by simp [Nat.succ_mul]; omega) hx2 hy2 w
                simpa [List.append_assoc] using this
          have := key n 0 [] [] xs ys (by simp) (by simp) (by rw [h]; exact hx) (by rw [h]; exact hy) w
          rw [List.range_eq_range']
          exact this
        · cases h
      · cases h
    · cases h

class EqK (P : Program) (t : Nat) (ks : outParam (List CK)) : Prop where
  is : eqflat P 6 t = some ks
  agg : (tyk P t).map (·.1) = some true
  guard : P.eqGuardType P.depth t = false
theorem run_eqlS {P : Program} {t : Nat} {ks : List CK} (h : EqK P t ks) {xs ys : List Value} (hx : wfC ks xs = true) (hy : wfC ks ys = true) (w : World) : (Op.equal t (.agg xs.toArray) (.agg ys.toArray)).run P w = .ok (cellsEq xs ys) w := by
  have h1 := eq_sound P 6 t ks h.is 9994 xs ys hx hy w
  have h2 : ∀ vs, valOf P t vs = .agg vs.toArray := fun vs => by
    have ha := h.agg
    unfold tyk at ha
    unfold valOf
    split at ha <;> rename_i e1 e2 <;> first | (rw [e1]) | (simp at ha)
    rename_i hno1 hno2 
    split <;> first | rfl | (rename_i hno3 hno4; exact absurd ha (by simp))
  rw [h2, h2] at h1
  exact h1
section
variable {Γ : Cx} {ρ : Nat → Value} {I : Mem} {L : List HP} {ty : TypeId}
theorem run_eqGuardS {P : Program} {t : Nat} (h : P.eqGuardType P.depth t = false) (op : BinOp) (hop : op = .eql ∨ op = .neq) (x y : Operand) (xs ys : Array Value) (w : World) : (eqGuard op t x y (.agg xs) (.agg ys)).run P w = .ok () w := by
  rcases hop with rfl | rfl <;> simp [eqGuard, Sem.run_bind, run_program, h]
theorem Val.eqlS {t t' : Nat} {x y : Operand} {ks : List CK} {xs ys : List Value} [hk : EqK Γ.P t ks] (hx : ev ρ x = .agg xs.toArray) (hy : ev ρ y = .agg ys.toArray) (wx : wfC ks xs = true) (wy : wfC ks ys = true) :
    Val Γ ρ I L (.binOp .eql t x y t') ty (.bool (cellsEq xs ys)) := fun w _ => by
  simp only [execOp, hx, hy, Sem.run_bind, run_eqGuardS hk.guard .eql (.inl rfl), Result.andThen_ok, binOp, run_eqlS hk wx wy]; rfl
theorem Val.neqS {t t' : Nat} {x y : Operand} {ks : List CK} {xs ys : List Value} [hk : EqK Γ.P t ks] (hx : ev ρ x = .agg xs.toArray) (hy : ev ρ y = .agg ys.toArray) (wx : wfC ks xs = true) (wy : wfC ks ys = true) :
    Val Γ ρ I L (.binOp .neq t x y t') ty (.bool (!cellsEq xs ys)) := fun w _ => by
  simp only [execOp, hx, hy, Sem.run_bind, run_eqGuardS hk.guard .neq (.inr rfl), Result.andThen_ok, binOp, run_eqlS hk wx wy]; rfl
theorem cellsEq_self : ∀ {ks : List CK} {xs : List Value}, wfC ks xs = true → cellsEq xs xs = true
  | [], [], _ => rfl
  | k :: ks, v :: xs, h => by
    simp only [wfC, Bool.and_eq_true] at h
    simp only [cellsEq, cellsEq_self h.2, Bool.and_true]
    have := h.1
    cases k <;> cases v <;> simp_all [CK.ok, cellEq]
  | [], _ :: _, h => by simp [wfC] at h
  | _ :: _, [], h => by simp [wfC] at h
theorem Val.eqlSame {t t' : Nat} {x y : Operand} {ks : List CK} {xs : List Value} [hk : EqK Γ.P t ks] (hx : ev ρ x = .agg xs.toArray) (hy : ev ρ y = .agg xs.toArray) (wx : wfC ks xs = true) :
    Val Γ ρ I L (.binOp .eql t x y t') ty (.bool true) := by
  have := Val.eqlS (Γ := Γ) (t := t) (I := I) (L := L) (ty := ty) (t' := t') hx hy wx wx
  rwa [cellsEq_self wx] at this
theorem Val.neqSame {t t' : Nat} {x y : Operand} {ks : List CK} {xs : List Value} [hk : EqK Γ.P t ks] (hx : ev ρ x = .agg xs.toArray) (hy : ev ρ y = .agg xs.toArray) (wx : wfC ks xs = true) :
    Val Γ ρ I L (.binOp .neq t x y t') ty (.bool false) := by
  have := Val.neqS (Γ := Γ) (t := t) (I := I) (L := L) (ty := ty) (t' := t') hx hy wx wx
  rwa [cellsEq_self wx] at this
end
end Go.Sl

/-
  Gates: the shape of the next operation.
-/

namespace Go.Sl
set_option linter.unusedVariables false
set_option linter.unusedSimpArgs false
section
variable {Γ : Cx} {ops : Array Oper} {rest : List Oper} {ρ : Nat → Value} {I : Mem} {L : List HP} {Q : Post} {ty : TypeId} {ps : String} {af : Array Edge} {d : Option Nat}
end
section
variable {Γ : Cx} {ρ : Nat → Value} {I : Mem} {L : List HP}
theorem ResIs.tmpI {t : Nat} {k : IntKind} {m : Int} (h : ρ t = .int k m) : ResIs Γ ρ I L (.tmp t) (.int k m) := ResIs.tmp h
theorem ResIs.tmpB {t : Nat} {b : Bool} (h : ρ t = .bool b) : ResIs Γ ρ I L (.tmp t) (.bool b) := ResIs.tmp h
theorem ResIs.tmpP {t : Nat} {p : Option Addr} (h : ρ t = .pointer p) : ResIs Γ ρ I L (.tmp t) (.pointer p) := ResIs.tmp h
theorem ResIs.tmpS {t : Nat} {p : Option Addr} {m n : Nat} (h : ρ t = .slice p m n) : ResIs Γ ρ I L (.tmp t) (.slice p m n) := ResIs.tmp h
end
end Go.Sl

/-
  More rules: frames for contracts, slices of the immutable heap, full slices, copy, strings of bytes, slices that are nil.
-/

namespace Go.Sl
set_option linter.unusedVariables false
set_option linter.unusedSimpArgs false
open Go.RowKit

theorem Ctr.frame {P : Program} {f : FuncId} {args : List Value} {I : Mem} {L : List HP} {R : Value → Mem → List HP → Prop} (M : List HP) (h : Ctr P f args I L R) :
    Ctr P f args I (L ++ M) (fun v I' L' => ∃ L1, L' = L1 ++ M ∧ R v I' L1) := fun E w F hw => by
  have h1 : Sat E w I (sts (F :: M) :: L) := (hw.perm (show (F :: (L ++ M)).Perm ((F :: M) ++ L) from (List.perm_append_comm (l₁ := L) (l₂ := M)).cons F)).imp fun m hm => sts_fold hm
  refine (h E w _ h1).mono ?_
  rintro e w' ⟨v, I', L', a, b, c, d⟩
  refine ⟨v, I', L' ++ M, a, b, ?_, L', rfl, d⟩
  exact (c.imp fun m hm => sts_unfold hm).perm (show ((F :: M) ++ L').Perm (F :: (L' ++ M)) from (List.perm_append_comm (l₁ := M) (l₂ := L')).cons F)

theorem Ctr.behind {P : Program} {f : FuncId} {args : List Value} {I : Mem} {q : HP} {R : Value → Mem → List HP → Prop} (p : HP) (h : Ctr P f args I [q] R) (hs : ∀ v I' L', R v I' L' → ∃ q', L' = [q']) :
    Ctr P f args I [p, q] (fun v I' L' => ∃ q', L' = [p, q'] ∧ R v I' [q']) := fun E w F hw => by
  have h1 : Sat E w I (sts [F, p] :: [q]) := hw.imp fun m hm => sts_fold (l := [F, p]) (l' := [q]) hm
  refine (h E w _ h1).mono ?_
  rintro e w' ⟨v, I', L', a, b, c, d⟩
  obtain ⟨q', rfl⟩ := hs _ _ _ d
  exact ⟨v, I', [p, q'], a, b, c.imp fun m hm => sts_unfold (l := [F, p]) (l' := [q']) hm, q', rfl, d⟩
/-- A slice of n elements whose cells lie in the immutable heap. -/
def SlAt (I : Mem) (v : Value) (n : Nat) (cs : List Value) : Prop :=
  ∃ a cap, v = .slice a n cap ∧ (n ≤ cap ∧ cap ≤ maxLen) ∧ ((n = 0 ∧ cs = []) ∨ ∃ b off, a = some ⟨b, off, none⟩ ∧ At I b off cs)
theorem SlAt.mono {I I' : Mem} {v : Value} {n : Nat} {cs : List Value} (h : SlAt I v n cs) (hI : I.le I') : SlAt I' v n cs := by
  obtain ⟨a, cap, hv, hc, h⟩ := h
  exact ⟨a, cap, hv, hc, h.imp id fun ⟨b, off, h1, h2⟩ => ⟨b, off, h1, h2.mono hI⟩⟩
theorem SlAt.nil (I : Mem) : SlAt I (.slice none 0 0) 0 [] := ⟨none, 0, rfl, ⟨Nat.le_refl _, Nat.zero_le _⟩, .inl ⟨rfl, rfl⟩⟩
abbrev byt (x : Fin 256) : Value := .int .u8 (x.val : Int)
/-- Bytes in the immutable heap. -/
def Byt (I : Mem) (v : Value) (bs : List (Fin 256)) : Prop := SlAt I v bs.length (bs.map byt)
theorem Byt.mono {I I' : Mem} {v : Value} {bs : List (Fin 256)} (h : Byt I v bs) (hI : I.le I') : Byt I' v bs := SlAt.mono h hI
theorem Byt.nil (I : Mem) : Byt I (.slice none 0 0) [] := SlAt.nil I
theorem At.drop {I : Mem} {b off : Nat} {cs : List Value} (h : At I b off cs) (k : Nat) : At I b (off + k) (cs.drop k) := by
  obtain ⟨c, ty, fr, h1, h2⟩ := h
  refine ⟨c, ty, fr, h1, fun j v hj => ?_⟩
  rw [List.getElem?_drop] at hj
  have := h2 _ _ hj
  rwa [← Nat.add_assoc] at this
theorem At.take {I : Mem} {b off : Nat} {cs : List Value} (h : At I b off cs) (k : Nat) : At I b off (cs.take k) := by
  obtain ⟨c, ty, fr, h1, h2⟩ := h
  refine ⟨c, ty, fr, h1, fun j v hj => ?_⟩
  rw [List.getElem?_take] at hj
  split at hj
  · exact h2 _ _ hj
  · cases hj
/-- A part of bytes, as a slice. -/
theorem Byt.part {I : Mem} {a : Option Addr} {n cap : Nat} {bs : List (Fin 256)} (h : Byt I (.slice a n cap) bs) (l m cap' : Nat) (h1 : l ≤ m) (h2 : m ≤ n) (h3 : m ≤ cap') (h4 : cap' ≤ cap) :
    Byt I (.slice (if cap' = l then a else a.map (·.add (l * 1))) (m - l) (cap' - l)) ((bs.take m).drop l) := by
  obtain ⟨a', c, hv, hc, h⟩ := h
  cases hv
  have hl : ((bs.take m).drop l).length = m - l := by simp; omega
  refine ⟨_, _, by rw [hl], by rw [hl]; omega, ?_⟩
  rw [hl]
  by_cases hz : m - l = 0
  · exact .inl ⟨hz, by rw [List.map_eq_nil_iff]; exact List.eq_nil_of_length_eq_zero (by rw [hl, hz])⟩
  rcases h with ⟨h0, _⟩ | ⟨b, off, rfl, h⟩
  · omega
  · refine .inr ⟨b, off + l, ?_, ?_⟩
    · rw [if_neg (by omega)]
      simp [addr_add]
    · rw [List.map_drop, List.map_take]
      exact (h.take m).drop l
theorem SlAt.len {I : Mem} {v : Value} {n : Nat} {cs : List Value} (h : SlAt I v n cs) : ∃ a cap, v = .slice a n cap ∧ n ≤ cap := by
  obtain ⟨a, cap, hv, hc, _⟩ := h; exact ⟨a, cap, hv, hc.1⟩
theorem SlAt.le {I : Mem} {v : Value} {n : Nat} {cs : List Value} (h : SlAt I v n cs) : n ≤ maxLen := by
  obtain ⟨a, cap, hv, hc, _⟩ := h; exact Nat.le_trans hc.1 hc.2
theorem Byt.head {I : Mem} {v : Value} {x : Fin 256} {bs : List (Fin 256)} (h : Byt I v (x :: bs)) : ∃ b off cap, v = .slice (some ⟨b, off, none⟩) (bs.length + 1) cap ∧ bs.length + 1 ≤ cap ∧ At I b off ((x :: bs).map byt) := by
  obtain ⟨a, cap, rfl, hc, ⟨h0, _⟩ | ⟨b, off, rfl, h⟩⟩ := h
  · simp at h0
  · exact ⟨b, off, cap, rfl, hc.1, h⟩
theorem Byt.tail {I : Mem} {b off cap : Nat} {x : Fin 256} {bs : List (Fin 256)} (h : Byt I (.slice (some ⟨b, off, none⟩) (bs.length + 1) cap) (x :: bs)) (hc : bs.length + 1 ≤ cap) :
    Byt I (.slice (if cap = 1 then some ⟨b, off, none⟩ else some ⟨b, off + 1, none⟩) (bs.length + 1 - 1) (cap - 1)) bs := by
  have := h.part 1 (bs.length + 1) cap (by omega) (by omega) hc (Nat.le_refl _)
  have e : ((x :: bs).take (bs.length + 1)).drop 1 = bs := by simp
  rw [e] at this
  have e2 : (Option.map (fun x => Addr.add x (1 * 1)) (some (⟨b, off, none⟩ : Addr))) = some ⟨b, off + 1, none⟩ := by simp [addr_add]
  rw [e2] at this
  exact this
/-- A finished slice of one's own is laid into the immutable heap. -/
theorem Sat.freezeAt {E : Ev} {w : World} {I : Mem} {L : List HP} {e sz n : Nat} {v : Value} {xs : List Value} (h : Sat E w I (sl e sz v n xs :: L)) : ∃ I', I.le I' ∧ Sat E w I' L ∧ SlAt I' v n xs := by
  obtain ⟨I', h1, h2, ⟨rfl, rfl, rfl⟩ | ⟨g, cap, rfl, hc, hm, h3⟩⟩ := h.sl_freeze
  · exact ⟨I', h1, h2, SlAt.nil _⟩
  · exact ⟨I', h1, h2, _, _, rfl, ⟨hc, hm⟩, .inr ⟨g, 0, rfl, h3⟩⟩

section
variable {Γ : Cx} {ops : Array Oper} {rest : List Oper} {ρ : Nat → Value} {I : Mem} {L : List HP} {Q : Post} {ty : TypeId} {ps : String} {af : Array Edge}
/-- An empty slice of one's own. -/
theorem WC.slNil {c : Code} (e sz : Nat) (next : WC Γ c ρ I (L ++ [sl e sz (.slice none 0 0) 0 []]) Q) : WC Γ c ρ I L Q := fun a w ha hw => next a w ha ((hw.sl_nil (e := e) (sz := sz)).perm (List.perm_append_comm (l₁ := [_])))
theorem WL.slNil (e sz : Nat) (next : WL Γ ops rest ρ I (L ++ [sl e sz (.slice none 0 0) 0 []]) Q) : WL Γ ops rest ρ I L Q := fun a w ha hw => next a w ha ((hw.sl_nil (e := e) (sz := sz)).perm (List.perm_append_comm (l₁ := [_])))

/-- A slice against nil. -/
theorem Val.eqlNil {t t' e n len cap : Nat} {a : Option Addr} {x : Operand} [hk : SlK Γ.P t e n] (hx : ev ρ x = .slice a len cap) : Val Γ ρ I L (.binOp .eql t x (.const (.slice none 0 0)) t') ty (.bool a.isNone) :=
  fun w _ => by
    obtain ⟨hu, _⟩ := SlK.und hk.is
    have h1 : (Op.equal t (.slice a len cap) (.slice none 0 0)).run Γ.P w = .ok a.isNone w := by
      unfold Op.equal Op.maxDepth
      show (Op.equalIn (9999 + 1) t (.slice a len cap) (.slice none 0 0)).run Γ.P w = _
      unfold Op.equalIn
      cases a <;> (simp only [Sem.run_bind, run_underlying hu, Result.andThen_ok]; rfl)
    simp only [execOp, hx]
    simp [eqGuard, binOp, h1, ev]
    all_goals rfl

/-! strings of bytes -/
class BytesStrK (P : Program) (s t : Nat) : Prop where
  is : ∃ e, P.underlying s = some (.slice e) ∧ P.underlying e = some (.int .u8) ∧ P.underlying t = some .string
class StrK (P : Program) (t : Nat) : Prop where
  is : P.underlying t = some .string
theorem Val.makeFuncL {fn : Fn} {p q : List Operand} : Val Γ ρ I L (.makeFunc fn p.toArray q.toArray) ty (.func fn (p.map (ev ρ)).toArray (q.map (ev ρ)).toArray) := fun w hw => by
  have := Val.makeFunc (Γ := Γ) (ρ := ρ) (I := I) (L := L) (ty := ty) (fn := fn) (p := p.toArray) (q := q.toArray) w hw
  simpa only [List.map_toArray] using this
class AddN (a b : Nat) (c : outParam Nat) : Prop where
  is : a + b = c
instance (priority := low) {a b : Nat} : AddN a b (a + b) := ⟨rfl⟩
instance {a : Nat} : AddN a 0 a := ⟨rfl⟩
instance (priority := high) {b : Nat} : AddN 0 b b := ⟨Nat.zero_add b⟩
theorem Val.fldAddr {s f b off o n o' : Nat} {g : Bool} {x : Operand} [hk : FldK Γ.P s f o g n] (hx : ev ρ x = .pointer (some ⟨b, off, none⟩)) [h : AddN off o o'] :
    Val Γ ρ I L (.fieldAddr s x f) ty (.pointer (some ⟨b, o', none⟩)) := by rw [← h.is]; exact Val.fieldAddr hx
/-! lists are kept written out -/
class SplL (cs : List Value) (off : Nat) (vs : List Value) (out : outParam (List Value)) : Prop where
  is : splice cs off vs = out
instance {cs : List Value} : SplL cs 0 [] cs := ⟨by simp [splice]⟩
instance {c v : Value} {cs vs o : List Value} [h : SplL cs 0 vs o] : SplL (c :: cs) 0 (v :: vs) (v :: o) := ⟨by
  have := h.is
  simp [splice] at this ⊢
  exact this⟩
instance {c : Value} {k : Nat} {cs vs o : List Value} [h : SplL cs k vs o] : SplL (c :: cs) (k + 1) vs (c :: o) := ⟨by
  have := h.is
  simp only [splice] at this ⊢
  rw [List.take_succ_cons, show k + 1 + vs.length = (k + vs.length) + 1 by omega, List.drop_succ_cons]
  simp only [List.cons_append, List.append_assoc] at this ⊢
  rw [this]⟩
class SetL (L : List HP) (k : Nat) (p : HP) (out : outParam (List HP)) : Prop where
  is : L.set k p = out
instance {L : List HP} {a p : HP} : SetL (a :: L) 0 p (p :: L) := ⟨rfl⟩
instance {L o : List HP} {a p : HP} {k : Nat} [h : SetL L k p o] : SetL (a :: L) (k + 1) p (a :: o) := ⟨by rw [List.set_cons_succ, h.is]⟩
class AppL (A B : List HP) (out : outParam (List HP)) : Prop where
  is : A ++ B = out
instance {B : List HP} : AppL [] B B := ⟨rfl⟩
instance {A B o : List HP} {a : HP} [h : AppL A B o] : AppL (a :: A) B (a :: o) := ⟨by rw [List.cons_append, h.is]⟩
class EraL (A : List HP) (k : Nat) (out : outParam (List HP)) : Prop where
  is : A.eraseIdx k = out
instance {A : List HP} {a : HP} : EraL (a :: A) 0 A := ⟨rfl⟩
instance {A o : List HP} {a : HP} {k : Nat} [h : EraL A k o] : EraL (a :: A) (k + 1) (a :: o) := ⟨by rw [List.eraseIdx_cons_succ, h.is]⟩
class PickL (ks : List Nat) (L : List HP) (xs r : outParam (List HP)) : Prop where
  is : picks ks L = some (xs, r)
class TakeL (k : Nat) (L : List HP) (p : outParam HP) (r : outParam (List HP)) : Prop where
  is : L[k]? = some p ∧ L.eraseIdx k = r
instance {L : List HP} {p : HP} : TakeL 0 (p :: L) p L := ⟨rfl, rfl⟩
instance {L r : List HP} {a p : HP} {k : Nat} [h : TakeL k L p r] : TakeL (k + 1) (a :: L) p (a :: r) := ⟨by rw [List.getElem?_cons_succ]; exact h.is.1, by rw [List.eraseIdx_cons_succ, h.is.2]⟩
instance {L : List HP} : PickL [] L [] L := ⟨rfl⟩
instance {L L1 xs r : List HP} {k : Nat} {ks : List Nat} {p : HP} [h : TakeL k L p L1] [h2 : PickL ks L1 xs r] : PickL (k :: ks) L (p :: xs) r := ⟨by
  unfold picks
  rw [h.is.1, h.is.2]
  simp only [h2.is]⟩
theorem WL.nApp {A B o : List HP} [h : AppL A B o] (next : WL Γ ops rest ρ I o Q) : WL Γ ops rest ρ I (A ++ B) Q := by rw [h.is]; exact next
theorem WL.nSet {A o : List HP} {k : Nat} {p : HP} [h : SetL A k p o] (next : WL Γ ops rest ρ I o Q) : WL Γ ops rest ρ I (A.set k p) Q := by rw [h.is]; exact next
theorem WC.nApp {c : Code} {A B o : List HP} [h : AppL A B o] (next : WC Γ c ρ I o Q) : WC Γ c ρ I (A ++ B) Q := by rw [h.is]; exact next
/-- A call; what is owned is written out. -/
theorem WL.callP {d : Nat} {f : FuncId} {x : Operand} {args : List Operand} {ats : Array TypeId} {fs cp vs : List Value} {Lc Lr : List HP} {R : Value → Mem → List HP → Prop} (ks : List Nat) [hf : FnK Γ.P f]
    (hx : ev ρ x = .func (.func f) fs.toArray cp.toArray) (hv : fs ++ args.map (ev ρ) ++ cp = vs) [hp : PickL ks L Lc Lr] (hc : Ctr Γ.P f vs I Lc R) (hd : Nat.blt d Γ.n = true)
    (next : ∀ v I' L', I.le I' → R v I' L' → WL Γ ops rest (upd ρ d v) I' (Lr ++ L') Q) :
    WL Γ ops ({ dst := some d, op := .call { callee := .value x, args := args.toArray, argTypes := ats }, type := ty, pos := ps, after := af, guard := none } :: rest) ρ I L Q :=
  WL.call ks hx hv hp.is hc hd next
/-- Stores; the cells are written out. -/
theorem WL.stI {t b off n bt : Nat} {g : Bool} {x y : Operand} {cs cs' : List Value} {L' : List HP} {kk : IntKind} {m : Int} (k : Nat) [hk : TyK Γ.P t g n] (hx : ev ρ x = .pointer (some ⟨b, off, none⟩)) (hL : L[k]? = some (Sl.box b bt cs)) (hy : ev ρ y = .int kk m)
    (hok : storeOk [.int kk m] n off cs.length = true) [h1 : SplL cs off [.int kk m] cs'] [h2 : SetL L k (Sl.box b bt cs') L'] (next : WL Γ ops rest ρ I L' Q) :
    WL Γ ops ({ dst := none, op := .store t x y, type := ty, pos := ps, after := af, guard := none } :: rest) ρ I L Q :=
  WL.store k hx hL (by rw [hy]; exact hok) (by rw [hy]; show WL Γ ops rest ρ I (L.set k (Sl.box b bt (splice cs off [.int kk m]))) Q; rw [h1.is, h2.is]; exact next)
theorem WL.stS {t b off n bt : Nat} {g : Bool} {x y : Operand} {cs cs' : List Value} {L' : List HP} {aa : Option Addr} {mm nn : Nat} (k : Nat) [hk : TyK Γ.P t g n] (hx : ev ρ x = .pointer (some ⟨b, off, none⟩)) (hL : L[k]? = some (Sl.box b bt cs)) (hy : ev ρ y = .slice aa mm nn)
    (hok : storeOk [.slice aa mm nn] n off cs.length = true) [h1 : SplL cs off [.slice aa mm nn] cs'] [h2 : SetL L k (Sl.box b bt cs') L'] (next : WL Γ ops rest ρ I L' Q) :
    WL Γ ops ({ dst := none, op := .store t x y, type := ty, pos := ps, after := af, guard := none } :: rest) ρ I L Q :=
  WL.store k hx hL (by rw [hy]; exact hok) (by rw [hy]; show WL Γ ops rest ρ I (L.set k (Sl.box b bt (splice cs off [.slice aa mm nn]))) Q; rw [h1.is, h2.is]; exact next)
theorem WL.stA {t b off n bt : Nat} {g : Bool} {x y : Operand} {cs cs' : List Value} {L' : List HP} {vs : List Value} (k : Nat) [hk : TyK Γ.P t g n] (hx : ev ρ x = .pointer (some ⟨b, off, none⟩)) (hL : L[k]? = some (Sl.box b bt cs)) (hy : ev ρ y = .agg vs.toArray)
    (hok : storeOk vs n off cs.length = true) [h1 : SplL cs off vs cs'] [h2 : SetL L k (Sl.box b bt cs') L'] (next : WL Γ ops rest ρ I L' Q) :
    WL Γ ops ({ dst := none, op := .store t x y, type := ty, pos := ps, after := af, guard := none } :: rest) ρ I L Q :=
  WL.store k hx hL (by rw [hy]; exact hok) (by rw [hy]; show WL Γ ops rest ρ I (L.set k (Sl.box b bt (splice cs off vs))) Q; rw [h1.is, h2.is]; exact next)
class SubL (cs : List Value) (off n : Nat) (out : outParam (List Value)) : Prop where
  is : (cs.drop off).take n = out
instance {cs : List Value} : SubL cs 0 0 [] := ⟨by simp⟩
instance {c : Value} {cs o : List Value} {n : Nat} [h : SubL cs 0 n o] : SubL (c :: cs) 0 (n + 1) (c :: o) := ⟨by have := h.is; simp at this ⊢; exact this⟩
instance {c : Value} {cs o : List Value} {k n : Nat} [h : SubL cs k n o] : SubL (c :: cs) (k + 1) n o := ⟨by rw [List.drop_succ_cons]; exact h.is⟩
theorem Val.ldO {t b off n bt : Nat} {x : Operand} {cs vs : List Value} (k : Nat) [hk : TyK Γ.P t true n] (hx : ev ρ x = .pointer (some ⟨b, off, none⟩)) (hL : L[k]? = some (Sl.box b bt cs)) (hc : Nat.ble (off + n) cs.length = true) [h : SubL cs off n vs] :
    Val Γ ρ I L (.load t x) ty (.agg vs.toArray) := by rw [← h.is]; exact Val.loadO k hx hL hc
theorem ResIs.cellL {x t n b off bt : Nat} {cs vs : List Value} (k : Nat) [hk : TyK Γ.P t true n] (h : ρ x = .pointer (some ⟨b, off, none⟩)) (hL : L[k]? = some (Sl.box b bt cs)) (hc : Nat.ble (off + n) cs.length = true) [h2 : SubL cs off n vs] :
    ResIs Γ ρ I L (.cell x t) (.agg vs.toArray) := by rw [← h2.is]; exact ResIs.cellO k h hL hc
theorem WX.doneP {fn : Func} {F : HP} {I0 : Mem} {L' Lr : List HP} {v : Value} {R : Value → Mem → List HP → Prop} (hres : RunRes Γ fn ρ I L v) (ks : List Nat) [hp : PickL (0 :: ks) L (F :: L') Lr] (hI : I0.le I) (hR : R v I L') (hds : Γ.ds = [] := by rfl) :
    WX Γ .ret ρ I L (bodyPost Γ.P fn (FnPost Γ.E F I0 R)) := WX.doneR hres ks hp.is hI hR hds
theorem WL.freeze {e sz n : Nat} {v : Value} {xs : List Value} {L' : List HP} (k : Nat) (hL : L[k]? = some (sl e sz v n xs)) [hE : EraL L k L'] (next : ∀ I', I.le I' → SlAt I' v n xs → WL Γ ops rest ρ I' L' Q) : WL Γ ops rest ρ I L Q := fun a w ha hw => by
  obtain ⟨I', h1, h2, h3⟩ := (hw.perm (pull k L _ hL)).freezeAt
  rw [hE.is] at h2
  exact next I' h1 h3 a w ha h2
theorem WC.freeze {c : Code} {e sz n : Nat} {v : Value} {xs : List Value} {L' : List HP} (k : Nat) (hL : L[k]? = some (sl e sz v n xs)) [hE : EraL L k L'] (next : ∀ I', I.le I' → SlAt I' v n xs → WC Γ c ρ I' L' Q) : WC Γ c ρ I L Q := fun a w ha hw => by
  obtain ⟨I', h1, h2, h3⟩ := (hw.perm (pull k L _ hL)).freezeAt
  rw [hE.is] at h2
  exact next I' h1 h3 a w ha h2
theorem WX.freeze {c : Exit} {e sz n : Nat} {v : Value} {xs : List Value} {L' : List HP} (k : Nat) (hL : L[k]? = some (sl e sz v n xs)) [hE : EraL L k L'] (next : ∀ I', I.le I' → SlAt I' v n xs → WX Γ c ρ I' L' Q) : WX Γ c ρ I L Q := fun a w ha hw => by
  obtain ⟨I', h1, h2, h3⟩ := (hw.perm (pull k L _ hL)).freezeAt
  rw [hE.is] at h2
  exact next I' h1 h3 a w ha h2
/-- A block as a slice of one's own. -/
theorem WL.boxSl {g e sz n : Nat} {xs : List Value} {L' : List HP} (k : Nat) (hL : L[k]? = some (Sl.box g e xs)) (hn : xs.length = n * sz) (hm : n ≤ maxLen) [h2 : SetL L k (sl e sz (.slice (some ⟨g, 0, none⟩) n n) n xs) L'] (next : WL Γ ops rest ρ I L' Q) : WL Γ ops rest ρ I L Q := fun a w ha hw =>
  next a w ha (h2.is ▸ ((hw.perm (pull k L _ hL)).box_sl hn hm).perm (push_back k L _ _ hL))
/-- copy(d, s): all of s. -/
theorem WL.copy0 {d t e g o dn dc n bt : Nat} {x y : Operand} {v : Value} {cs ys : List Value} (k : Nat) [hk : SlK Γ.P t e 1] (hx : ev ρ x = .slice (some ⟨g, o, none⟩) dn dc) (hL : L[k]? = some (Sl.box g bt cs)) (hy : ev ρ y = v)
    (hs : SlAt I v n ys) (hn : ys.length = n) (h0 : 0 < n) (hdn : n ≤ dn) (h1 : ys.all Value.oneCell' = true) (hfit : o + n ≤ cs.length) (hd : Nat.blt d Γ.n = true)
    (next : WL Γ ops rest (upd ρ d (.int .i64 n)) I (L.set k (Sl.box g bt (splice cs o ys))) Q) :
    WL Γ ops ({ dst := some d, op := .call { callee := .builtin .copy, args := #[x, y], argTypes := #[t, t] }, type := ty, pos := ps, after := af, guard := none } :: rest) ρ I L Q :=
  WL.eff (fun w hw => by
    obtain ⟨hu, ie, hie, hsz⟩ := SlK.und hk.is
    obtain ⟨a, cap, rfl, hc, ⟨h00, _⟩ | ⟨b, off, rfl, c, cty, fr, hI, hcs⟩⟩ := hs
    · omega
    have hg := hw.lookK hL
    have hh := hw.imm _ _ hI
    have := run_copy_row (P := Γ.P) w t t ty e g o dn dc ⟨b, off, none⟩ n cap cs.toArray bt ys hu (by rw [hie]; simp [hsz]) hg (by rw [hn]; exact (Nat.min_eq_left hdn).symm) (fun j u hj => by
      have := hcs j u hj
      rw [addr_add]
      simp [World.cell?, hh, this]) (by simp; omega) (fun v hv => List.all_eq_true.1 h1 v hv)
    refine ⟨_, ?_, setRow_sat hw hL (splice cs o ys)⟩
    simp only [execOp, resolve, List.map_toArray, List.map_cons, List.map_nil, hx, hy, pure_bind, invoke, builtin, Sem.run_bind, this, Result.andThen_ok]
    subst hn
    simp [splice, goInt]) hd next
theorem WL.copy {d t e g o dn dc n bt : Nat} {x y : Operand} {v : Value} {cs ys cs' : List Value} {L' : List HP} (k : Nat) [hk : SlK Γ.P t e 1] (hx : ev ρ x = .slice (some ⟨g, o, none⟩) dn dc) (hL : L[k]? = some (Sl.box g bt cs)) (hy : ev ρ y = v)
    (hs : SlAt I v n ys) (hn : ys.length = n) (h0 : 0 < n) (hdn : n ≤ dn) (h1 : ys.all Value.oneCell' = true) (hfit : o + n ≤ cs.length) (hd : Nat.blt d Γ.n = true) [hS : SplL cs o ys cs'] [hE : SetL L k (Sl.box g bt cs') L']
    (next : WL Γ ops rest (upd ρ d (.int .i64 n)) I L' Q) :
    WL Γ ops ({ dst := some d, op := .call { callee := .builtin .copy, args := #[x, y], argTypes := #[t, t] }, type := ty, pos := ps, after := af, guard := none } :: rest) ρ I L Q :=
  WL.copy0 k hx hL hy hs hn h0 hdn h1 hfit hd (by rw [hS.is, hE.is]; exact next)
end
end Go.Sl

/-
  More rules: comparisons that part the ways, answers of yes or no, appends of slices that lie in the immutable heap, results that are laid there.
-/

namespace Go.Sl
set_option linter.unusedVariables false
set_option linter.unusedSimpArgs false
open Go.RowKit

theorem At.zero {I : Mem} {b off : Nat} {cs : List Value} {v : Value} (h : At I b off cs) (hv : cs[0]? = some v) : At I b off [v] := At.one (k := 0) h hv
/-- It answers whether p. -/
def EqP (p : Prop) : Value → Prop := fun v => ∃ b, v = .bool b ∧ (b = true ↔ p)
theorem EqP.t {p : Prop} (h : p) : EqP p (.bool true) := ⟨true, rfl, fun _ => h, fun _ => rfl⟩
theorem EqP.f {p : Prop} (h : ¬ p) : EqP p (.bool false) := ⟨false, rfl, fun h => (by cases h), fun k => absurd k h⟩
theorem EqP.congr {p q : Prop} {v : Value} (h : EqP p v) (k : p ↔ q) : EqP q v := by
  obtain ⟨b, rfl, hb⟩ := h; exact ⟨b, rfl, hb.trans k⟩
theorem cellsEq_iff : ∀ {ks : List CK} {xs ys : List Value}, wfC ks xs = true → wfC ks ys = true → (cellsEq xs ys = true ↔ xs = ys)
  | [], [], [], _, _ => by simp [cellsEq]
  | k :: ks, v :: xs, u :: ys, h, g => by
    simp only [wfC, Bool.and_eq_true] at h g
    have ih := cellsEq_iff h.2 g.2
    simp only [cellsEq, Bool.and_eq_true, ih, List.cons.injEq]
    have h1 := h.1; have g1 := g.1
    cases k <;> cases v <;> simp [CK.ok] at h1 <;> cases u <;> simp [CK.ok] at g1 <;> simp_all [cellEq]
  | [], _ :: _, _, h, _ => by simp [wfC] at h
  | [], [], _ :: _, _, h => by simp [wfC] at h
  | _ :: _, [], _, h, _ => by simp [wfC] at h
  | _ :: _, _ :: _, [], _, h => by simp [wfC] at h

theorem all_snoc {α : Type} {P : α → Prop} {l : List α} {k : Nat} (h : ∀ x ∈ l.take k, P x) (hk : k < l.length) (hx : P l[k]) : ∀ x ∈ l.take (k + 1), P x := by
  rw [List.take_succ_eq_append_getElem hk]
  intro x hm
  rcases List.mem_append.1 hm with hm | hm
  · exact h x hm
  · rw [List.mem_singleton.1 hm]; exact hx
section
variable {Γ : Cx} {ops : Array Oper} {rest : List Oper} {ρ : Nat → Value} {I : Mem} {L : List HP} {Q : Post} {ty : TypeId} {ps : String} {af : Array Edge} {d t t' : Nat} {x y : Operand}
section
variable {k : IntKind} {m n : Int} (hx : ev ρ x = .int k m) (hy : ev ρ y = .int k n) (hd : Nat.blt d Γ.n = true)
include hx hy hd
theorem WL.eqI (ht : m = n → WL Γ ops rest (upd ρ d (.bool true)) I L Q) (hf : m ≠ n → WL Γ ops rest (upd ρ d (.bool false)) I L Q) :
    WL Γ ops ({ dst := some d, op := .binOp .eql t x y t', type := ty, pos := ps, after := af, guard := none } :: rest) ρ I L Q := by
  by_cases h : m = n
  · exact WL.val (Val.eql hx hy (beq_iff_eq.2 h)) hd (ht h)
  · exact WL.val (Val.eql hx hy (beq_eq_false_iff_ne.2 h)) hd (hf h)
theorem WL.ltI (ht : m < n → WL Γ ops rest (upd ρ d (.bool true)) I L Q) (hf : n ≤ m → WL Γ ops rest (upd ρ d (.bool false)) I L Q) :
    WL Γ ops ({ dst := some d, op := .binOp .lss t x y t', type := ty, pos := ps, after := af, guard := none } :: rest) ρ I L Q := by
  by_cases h : m < n
  · exact WL.val (Val.lss hx hy (decide_eq_true h)) hd (ht h)
  · exact WL.val (Val.lss hx hy (decide_eq_false h)) hd (hf (by omega))
theorem WL.leI (ht : m ≤ n → WL Γ ops rest (upd ρ d (.bool true)) I L Q) (hf : n < m → WL Γ ops rest (upd ρ d (.bool false)) I L Q) :
    WL Γ ops ({ dst := some d, op := .binOp .leq t x y t', type := ty, pos := ps, after := af, guard := none } :: rest) ρ I L Q := by
  by_cases h : m ≤ n
  · exact WL.val (Val.leq hx hy (decide_eq_true h)) hd (ht h)
  · exact WL.val (Val.leq hx hy (decide_eq_false h)) hd (hf (by omega))
theorem WL.geI (ht : n ≤ m → WL Γ ops rest (upd ρ d (.bool true)) I L Q) (hf : m < n → WL Γ ops rest (upd ρ d (.bool false)) I L Q) :
    WL Γ ops ({ dst := some d, op := .binOp .geq t x y t', type := ty, pos := ps, after := af, guard := none } :: rest) ρ I L Q := by
  by_cases h : n ≤ m
  · exact WL.val (Val.geq hx hy (decide_eq_true h)) hd (ht h)
  · exact WL.val (Val.geq hx hy (decide_eq_false h)) hd (hf (by omega))
end
section
variable {ks : List CK} {xs ys : List Value} [hk : EqK Γ.P t ks] (hx : ev ρ x = .agg xs.toArray) (hy : ev ρ y = .agg ys.toArray) (wx : wfC ks xs = true) (wy : wfC ks ys = true) (hd : Nat.blt d Γ.n = true)
include hk hx hy wx wy hd
theorem WL.eqS (ht : xs = ys → WL Γ ops rest (upd ρ d (.bool true)) I L Q) (hf : xs ≠ ys → WL Γ ops rest (upd ρ d (.bool false)) I L Q) :
    WL Γ ops ({ dst := some d, op := .binOp .eql t x y t', type := ty, pos := ps, after := af, guard := none } :: rest) ρ I L Q := by
  refine WL.val (Val.eqlS hx hy wx wy) hd ?_
  have hi := cellsEq_iff wx wy
  cases h : cellsEq xs ys
  · exact hf fun e => by rw [hi.2 e] at h; cases h
  · exact ht (hi.1 h)
theorem WL.neS (ht : xs ≠ ys → WL Γ ops rest (upd ρ d (.bool true)) I L Q) (hf : xs = ys → WL Γ ops rest (upd ρ d (.bool false)) I L Q) :
    WL Γ ops ({ dst := some d, op := .binOp .neq t x y t', type := ty, pos := ps, after := af, guard := none } :: rest) ρ I L Q := by
  refine WL.val (Val.neqS hx hy wx wy) hd ?_
  have hi := cellsEq_iff wx wy
  cases h : cellsEq xs ys
  · exact ht fun e => by rw [hi.2 e] at h; cases h
  · exact hf (hi.1 h)
end
theorem Val.eqlD {ks : List CK} {xs ys : List Value} [hk : EqK Γ.P t ks] (hx : ev ρ x = .agg xs.toArray) (hy : ev ρ y = .agg ys.toArray) (wx : wfC ks xs = true) (wy : wfC ks ys = true) (h : xs ≠ ys) : Val Γ ρ I L (.binOp .eql t x y t') ty (.bool false) := by
  have := Val.eqlS (Γ := Γ) (t := t) (I := I) (L := L) (ty := ty) (t' := t') hx hy wx wy
  rwa [show cellsEq xs ys = false by cases e : cellsEq xs ys with | false => rfl | true => exact absurd ((cellsEq_iff wx wy).1 e) h] at this
theorem Val.neqD {ks : List CK} {xs ys : List Value} [hk : EqK Γ.P t ks] (hx : ev ρ x = .agg xs.toArray) (hy : ev ρ y = .agg ys.toArray) (wx : wfC ks xs = true) (wy : wfC ks ys = true) (h : xs ≠ ys) : Val Γ ρ I L (.binOp .neq t x y t') ty (.bool true) := by
  have := Val.neqS (Γ := Γ) (t := t) (I := I) (L := L) (ty := ty) (t' := t') hx hy wx wy
  rwa [show cellsEq xs ys = false by cases e : cellsEq xs ys with | false => rfl | true => exact absurd ((cellsEq_iff wx wy).1 e) h] at this
/-- A struct or an array of nothing but zeros. -/
theorem Val.build0 {zs : List Value} {pl : List (Nat × Nat)} [hz : ZeroK Γ.P t zs] [hp : PlK Γ.P t pl] : Val Γ ρ I L (.build t #[]) ty (.agg zs.toArray) := Val.build (qs := []) rfl
theorem WL.boxA {x : Operand} {cs : List Value} (hx : ev ρ x = .agg cs.toArray) (hd : Nat.blt d Γ.n = true)
    (next : ∀ g, WL Γ ops rest (upd ρ d (.pointer (some ⟨g, 0, none⟩))) I (L ++ [Sl.box g t cs]) Q) : WL Γ ops ({ dst := some d, op := .box t x, type := ty, pos := ps, after := af, guard := none } :: rest) ρ I L Q :=
  WL.box (by rw [hx]; rfl) hd next
theorem Val.indexA {l n : Nat} {cs vs : List Value} {k : IntKind} {j : Int} [hk : ArK Γ.P t l true n] (hx : ev ρ x = .agg cs.toArray) (hi : ev ρ y = .int k j) (h0 : 0 ≤ j) (h1 : j < l) (hv : (cs.drop (j.toNat * n)).take n = vs) :
    Val Γ ρ I L (.index t x y) ty (.agg vs.toArray) := fun w hw => by
  obtain ⟨e, hu, he⟩ := ArK.und hk.is
  have hp := run_partA he (cs := cs.toArray) (off := j.toNat * n) w
  have hz : (cs.toArray.extract (j.toNat * n) (j.toNat * n + n)) = vs.toArray := by
    rw [← hv]; apply Array.ext'; simp
  rw [hz] at hp
  simp only [execOp, hx, hi, Instr.index, asIntOf, pure_bind, Sem.run_bind, run_underlying hu, Result.andThen_ok]
  simp only [h0, h1, and_self, if_true, Sem.run_bind, TyK.size he, Result.andThen_ok, hp]
  rfl
theorem Val.loadSS {b off : Nat} {cs : List Value} {v : Value} [hk : TyK Γ.P t false 1] (hx : ev ρ x = .pointer (some ⟨b, off, none⟩)) (h : At I b 0 cs) (hv : cs[off]? = some v) : Val Γ ρ I L (.load t x) ty v := by
  refine Val.loadS hx (Rd.imm ?_)
  have h2 := At.one h hv
  rwa [Nat.zero_add] at h2
theorem WL.ap1 {a : Oper} {A B : List Oper} (h : WL Γ ops (a :: A.append B) ρ I L Q) : WL Γ ops ((a :: A).append B) ρ I L Q := h
theorem WL.ap0 {B : List Oper} (h : WL Γ ops B ρ I L Q) : WL Γ ops (([] : List Oper).append B) ρ I L Q := h
/-- A call that answers yes or no. -/
theorem WL.callE {f : FuncId} {x : Operand} {args : List Operand} {ats : Array TypeId} {fs cp vs : List Value} {p : Prop} [hf : FnK Γ.P f]
    (hx : ev ρ x = .func (.func f) fs.toArray cp.toArray) (hv : fs ++ args.map (ev ρ) ++ cp = vs) (hc : Ctr Γ.P f vs I [] (Still I (EqP p))) (hd : Nat.blt d Γ.n = true)
    (ht : p → WL Γ ops rest (upd ρ d (.bool true)) I L Q) (hf : ¬ p → WL Γ ops rest (upd ρ d (.bool false)) I L Q) :
    WL Γ ops ({ dst := some d, op := .call { callee := .value x, args := args.toArray, argTypes := ats }, type := ty, pos := ps, after := af, guard := none } :: rest) ρ I L Q :=
  WL.callS hx hv hc hd fun v ⟨b, hb, hp⟩ => by
    subst hb
    cases b
    · exact hf fun h => by have := hp.2 h; cases this
    · exact ht (hp.1 rfl)

/-- append of what lies in the immutable heap. -/
theorem WL.appAt {e sz by_ n m : Nat} {s x : Operand} {v u : Value} {xs ys zs : List Value} (k : Nat) [hk : SlK Γ.P t e sz] [hz : ZeroK Γ.P e zs] [hb : BytK Γ.P e by_]
    (hs : ev ρ s = v) (hL : L[k]? = some (sl e sz v n xs)) (hx : ev ρ x = u) (hu : SlAt I u m ys) (hy : ys.length = m * sz) (h1 : ys.all Value.oneCell' = true) (hzs : zs.length = sz) (hsz : 0 < sz)
    (hbound : (n + m) * by_ ≤ 140737488355328) (hmax : n + m ≤ maxLen) (hd : Nat.blt d Γ.n = true)
    (next : ∀ aa cap, WL Γ ops rest (upd ρ d (.slice aa (n + m) cap)) I (L.set k (sl e sz (.slice aa (n + m) cap) (n + m) (xs ++ ys))) Q) :
    WL Γ ops ({ dst := some d, op := .call { callee := .builtin .append, args := #[s, x], argTypes := #[t, t] }, type := ty, pos := ps, after := af, guard := none } :: rest) ρ I L Q := by
  obtain ⟨a, cap, rfl, hc, hA⟩ := hu
  rcases Nat.eq_zero_or_pos m with h0 | h0
  · subst h0
    have hys : ys = [] := List.eq_nil_of_length_eq_zero (by simpa using hy)
    subst hys
    have hset : L.set k (sl e sz v n xs) = L := by
      apply List.ext_getElem?
      intro j
      rw [List.getElem?_set]
      split
      · rename_i hj
        subst hj
        split
        · exact hL.symm
        · rename_i hlt
          rw [List.getElem?_eq_none (by omega)] at hL; cases hL
      · rfl
    intro ac w ha hw
    have hv : ∃ aa cc, v = .slice aa n cc := by
      obtain ⟨m, hm, h1, h2⟩ := (hw.perm (pull k L _ hL)).head
      rcases h2 with ⟨rfl, rfl⟩ | ⟨g, cap, cur, hv, _⟩
      · exact ⟨_, _, rfl⟩
      · exact ⟨_, _, hv⟩
    obtain ⟨aa, cc, rfl⟩ := hv
    refine WL.append0 k hs hL hx hd ?_ ac w ha hw
    have h2 := next aa cc
    simp only [Nat.add_zero, List.append_nil, hset] at h2
    exact h2
  · rcases hA with ⟨h, _⟩ | ⟨b, off, rfl, hA⟩
    · omega
    · exact WL.append k hs hL hx (Rd.imm hA) hy h1 hzs hsz h0 hbound hmax hd fun g cap => next _ _
end
section
variable {Γ : Cx} {ops : Array Oper} {rest : List Oper} {ρ : Nat → Value} {I : Mem} {L : List HP} {Q : Post} {ty : TypeId} {ps : String} {af : Array Edge}
end
end Go.Sl

/-
  From a contract to the kit's words on a call: what lay there before the call lies there behind it.
-/

namespace Go.Sl
open Go.RowKit
def heapOf (W : World) : Mem := fun b => W.heap[b]?
theorem Ctr.calls {P : Program} {f : FuncId} {args : List Value} {W : World} {R : Value → Mem → List HP → Prop} (h : Ctr P f args (heapOf W) [] R) :
    Calls P f args.toArray W fun e w' => ∃ v I' L', e = .returned v ∧ Below W.heap.size W w' ∧ R v I' L' := by
  refine (h ⟨W.tape, W.os, W.output⟩ W (fun _ => True) ⟨rfl, rfl, rfl, fun b o hb => hb, fun _ => none, fun _ _ hb => (by cases hb), fun b => .inr rfl, fun _ => none, fun _ => none, fun _ _ hb => hb, fun _ _ hb => hb, fun _ => .inl rfl, trivial, trivial⟩).mono ?_
  rintro e w' ⟨v, I', L', he, hI, hw, hR⟩
  have key : ∀ k, k < W.heap.size → w'.heap[k]? = W.heap[k]? := fun k hk => by
    have h1 : W.heap[k]? = some W.heap[k] := Array.getElem?_eq_getElem hk
    rw [h1]
    exact hw.imm k _ (hI k _ h1)
  refine ⟨v, I', L', he, ⟨hw.os, hw.tape, hw.output, ?_, key⟩, hR⟩
  rcases Nat.eq_zero_or_pos W.heap.size with h0 | h0
  · omega
  · have h1 := key (W.heap.size - 1) (by omega)
    have h2 : W.heap[W.heap.size - 1]? = some W.heap[W.heap.size - 1] := Array.getElem?_eq_getElem (by omega)
    rw [h2] at h1
    have := (Array.getElem?_eq_some_iff.1 h1).1
    omega
end Go.Sl
