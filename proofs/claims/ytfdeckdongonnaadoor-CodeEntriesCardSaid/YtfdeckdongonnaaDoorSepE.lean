/-
  '==' of structs and arrays of numbers and bools.
-/
import Derived.Test.YtfdeckdongonnaaDoorSepD
import Derived.Laws.StructEq
import Derived.ChangeKeysEq
namespace Go.Sl
set_option linter.unusedVariables false
set_option linter.unusedSimpArgs false
open Go.RowKit

/-- The kinds of a value's cells: numbers, bools. -/
inductive CK where
  | i (k : IntKind)
  | b
  deriving DecidableEq
def CK.ok : CK → Value → Bool
  | .i k, .int k' _ => decide (k = k')
  | .b, .bool _ => true
  | _, _ => false
def wfC : List CK → List Value → Bool
  | [], [] => true
  | k :: ks, v :: vs => k.ok v && wfC ks vs
  | _, _ => false
def cellEq : Value → Value → Bool
  | .int _ a, .int _ b => a == b
  | .bool a, .bool b => a == b
  | _, _ => false
def cellsEq : List Value → List Value → Bool
  | x :: xs, y :: ys => cellEq x y && cellsEq xs ys
  | _, _ => true
theorem wfC_len : ∀ {ks : List CK} {vs : List Value}, wfC ks vs = true → vs.length = ks.length
  | [], [], _ => rfl
  | k :: ks, v :: vs, h => by simp [wfC] at h; simp [wfC_len h.2]
  | [], _ :: _, h => by simp [wfC] at h
  | _ :: _, [], h => by simp [wfC] at h
theorem wfC_int {k : IntKind} {vs : List Value} (h : wfC [.i k] vs = true) : ∃ a, vs = [.int k a] := by
  have hl := wfC_len h
  cases vs with
  | nil => simp at hl
  | cons v vs =>
    simp at hl; subst hl
    simp [wfC] at h
    cases v <;> simp [CK.ok] at h
    subst h; exact ⟨_, rfl⟩
theorem wfC_bool {vs : List Value} (h : wfC [.b] vs = true) : ∃ a, vs = [.bool a] := by
  have hl := wfC_len h
  cases vs with
  | nil => simp at hl
  | cons v vs =>
    simp at hl; subst hl
    simp [wfC] at h
    cases v <;> simp [CK.ok] at h
    exact ⟨_, rfl⟩
theorem wfC_append : ∀ {ks ks' : List CK} {vs : List Value}, wfC (ks ++ ks') vs = true → wfC ks (vs.take ks.length) = true ∧ wfC ks' (vs.drop ks.length) = true
  | [], ks', vs, h => by simpa [wfC] using h
  | k :: ks, ks', v :: vs, h => by
    simp [wfC] at h ⊢
    exact ⟨⟨h.1, (wfC_append h.2).1⟩, (wfC_append h.2).2⟩
  | k :: ks, ks', [], h => by simp [wfC] at h
theorem cellsEq_split : ∀ (n : Nat) (xs ys : List Value), xs.length = ys.length → cellsEq xs ys = (cellsEq (xs.take n) (ys.take n) && cellsEq (xs.drop n) (ys.drop n))
  | 0, xs, ys, h => by simp [cellsEq]
  | n + 1, [], [], h => by simp [cellsEq]
  | n + 1, x :: xs, y :: ys, h => by
    simp at h
    simp only [List.take_succ_cons, List.drop_succ_cons, cellsEq, Bool.and_assoc]
    rw [cellsEq_split n xs ys h]
  | n + 1, [], y :: ys, h => by simp at h
  | n + 1, x :: xs, [], h => by simp at h

def eqfields (P : Program) (rc : TypeId → Option (List CK)) : Nat → List Field → Option (List CK)
  | _, [] => some []
  | off, f :: fs =>
    if f.name = "_" ∨ f.offset ≠ off then none else
    match rc f.type, P.info? f.type with
    | some ks, some i => if i.size = ks.length then (eqfields P rc (off + ks.length) fs).map (ks ++ ·) else none
    | _, _ => none
def eqflat (P : Program) : Nat → TypeId → Option (List CK)
  | 0, _ => none
  | d + 1, t =>
    match P.underlying t, P.info? t with
    | some (.int k), some i => if i.size = 1 then some [.i k] else none
    | some .bool, some i => if i.size = 1 then some [.b] else none
    | some (.struct fs), some i => if P.stoodInHeld t then none else eqfields P (eqflat P d) 0 fs.toList
    | some (.array n e), some _ => match eqflat P d e, P.info? e with
      | some ks, some i => if i.size = ks.length then some (List.replicate n ks).flatten else none
      | _, _ => none
    | _, _ => none

/-- A value of type t with these cells. -/
def valOf (P : Program) (t : TypeId) (vs : List Value) : Value :=
  match P.underlying t with
  | some (.struct _) | some (.array _ _) => .agg vs.toArray
  | _ => vs.headD undef

theorem run_part_valOf {P : Program} {t : TypeId} {i : TypeInfo} {d : TypeDesc} (hd : P.underlying t = some d) (hi : P.info? t = some i) (hs : 0 < i.size ∨ (∃ fs, d = .struct fs) ∨ (∃ n e, d = .array n e)) (cs : List Value) (off : Nat) (h : off + i.size ≤ cs.length) (w : World) :
    (part t cs.toArray off).run P w = .ok (valOf P t ((cs.drop off).take i.size)) w := by
  have hz : (sizeOf t).run P w = .ok i.size w := by rw [run_sizeOf w hi]; simp [Program.cellsOf, hi]
  have agg : (cs.toArray.extract off (off + i.size)) = ((cs.drop off).take i.size).toArray := by
    apply Array.ext'; simp
  unfold part isAgg valOf
  simp only [Sem.run_bind, run_underlying hd, Result.andThen_ok]
  cases d
  case struct fs => rw [hd]; simp only [pure_bind, Sem.run_pure, Result.andThen_ok, if_true, Sem.run_bind, hz, agg]
  case array n e => rw [hd]; simp only [pure_bind, Sem.run_pure, Result.andThen_ok, if_true, Sem.run_bind, hz, agg]
  all_goals
    rw [hd]
    simp only [Sem.run_pure, Result.andThen_ok, Bool.false_eq_true, if_false]
    have h0 : 0 < i.size := by
      rcases hs with h | ⟨_, h⟩ | ⟨_, _, h⟩
      · exact h
      · cases h
      · cases h
    have hlt : off < cs.length := by omega
    have : cs.toArray[off]? = some cs[off] := by simp [hlt]
    simp only [this]
    rw [List.drop_eq_getElem_cons hlt]
    obtain ⟨n, hn⟩ : ∃ n, i.size = n + 1 := ⟨i.size - 1, by omega⟩
    rw [hn, List.take_succ_cons]
    rfl

theorem eqflat_size {P : Program} {d : Nat} {t : TypeId} {ks : List CK} (h : eqflat P d t = some ks) : ∃ x i, P.underlying t = some x ∧ P.info? t = some i ∧ ((∃ k, x = .int k ∧ ks = [.i k] ∧ i.size = 1) ∨ (x = .bool ∧ ks = [.b] ∧ i.size = 1) ∨ (∃ fs, x = .struct fs) ∨ (∃ n e, x = .array n e)) := by
  cases d with
  | zero => simp [eqflat] at h
  | succ d =>
    simp only [eqflat] at h
    split at h
    · rename_i k i h1 h2
      split at h
      · simp at h; exact ⟨_, _, h1, h2, .inl ⟨k, rfl, h.symm, by assumption⟩⟩
      · cases h
    · rename_i i h1 h2
      split at h
      · simp at h; exact ⟨_, _, h1, h2, .inr (.inl ⟨rfl, h.symm, by assumption⟩)⟩
      · cases h
    · rename_i fs i h1 h2; exact ⟨_, _, h1, h2, .inr (.inr (.inl ⟨fs, rfl⟩))⟩
    · rename_i n e i h1 h2; exact ⟨_, _, h1, h2, .inr (.inr (.inr ⟨n, e, rfl⟩))⟩
    · cases h

def EqOk (P : Program) (d : Nat) : Prop := ∀ (t : TypeId) (ks : List CK), eqflat P d t = some ks → ∀ (D : Nat) (xs ys : List Value), wfC ks xs = true → wfC ks ys = true → ∀ w, (Op.equalIn (d + D) t (valOf P t xs) (valOf P t ys)).run P w = .ok (cellsEq xs ys) w
theorem fields_sound (P : Program) (d : Nat) (first : EqOk P d) : ∀ (fs : List Field) (off : Nat) (ks : List CK), eqfields P (eqflat P d) off fs = some ks → ∀ (D : Nat) (pre pre' xs ys : List Value), pre.length = off → pre'.length = off → wfC ks xs = true → wfC ks ys = true → ∀ w,
      (Op.eqFields (d + D) (pre ++ xs).toArray (pre' ++ ys).toArray fs).run P w = .ok (cellsEq xs ys) w := by
  intro fs
  induction fs with
  | nil =>
    intro off ks h D pre pre' xs ys hp hp' hx hy w
    simp [eqfields] at h; subst h
    have := wfC_len hx; have := wfC_len hy; simp at *
    subst_vars; simp [Op.eqFields, cellsEq]
  | cons f fs ihf =>
    intro off ks h D pre pre' xs ys hp hp' hx hy w
    simp only [eqfields] at h
    split at h
    · cases h
    · rename_i hn
      simp only [not_or, Decidable.not_not] at hn
      split at h
      · rename_i ks' i' h3 h4
        split at h
        · rename_i hsz
          simp only [Option.map_eq_some_iff] at h
          obtain ⟨ks2, hk2, rfl⟩ := h
          obtain ⟨hx1, hx2⟩ := wfC_append hx
          obtain ⟨hy1, hy2⟩ := wfC_append hy
          have lx := wfC_len hx; have ly := wfC_len hy
          have lx1 := wfC_len hx1; have ly1 := wfC_len hy1
          simp only [List.length_append] at lx ly
          obtain ⟨x, ii, q1, q2, q3⟩ := eqflat_size h3
          have hii : ii = i' := by rw [h4] at q2; exact (Option.some.inj q2).symm
          subst hii
          have hs : 0 < ii.size ∨ (∃ fs, x = .struct fs) ∨ (∃ n e, x = .array n e) := by
            rcases q3 with ⟨_, _, _, h⟩ | ⟨_, _, h⟩ | h | h
            · exact .inl (by omega)
            · exact .inl (by omega)
            · exact .inr (.inl h)
            · exact .inr (.inr h)
          have p1 := run_part_valOf q1 q2 hs (pre ++ xs) f.offset (by simp; omega) w
          have p2 := run_part_valOf q1 q2 hs (pre' ++ ys) f.offset (by simp; omega) w
          rw [hn.2, ← hp, List.drop_left, hsz] at p1
          rw [hn.2, ← hp', List.drop_left, hsz] at p2
          rw [hp] at p1; rw [hp'] at p2
          have p3 := first f.type ks' h3 D _ _ hx1 hy1 w
          simp only [Op.eqFields, hn.1, ne_eq, not_false_eq_true, if_true, Sem.run_bind, hn.2, p1, p2, p3, Result.andThen_ok]
          rw [cellsEq_split ks'.length xs ys (by omega)]
          cases hq : cellsEq (xs.take ks'.length) (ys.take ks'.length)
          · simp
          · simp only [Bool.not_true, Bool.false_eq_true, if_false, Bool.true_and]
            have := ihf (off + ks'.length) ks2 hk2 D (pre ++ xs.take ks'.length) (pre' ++ ys.take ks'.length) (xs.drop ks'.length) (ys.drop ks'.length) (by simp; omega) (by simp; omega) hx2 hy2 w
            simpa [List.append_assoc] using this
        · cases h
      · cases h
theorem eq_sound (P : Program) : ∀ (d : Nat), EqOk P d := by
  intro d
  induction d with
  | zero => exact fun t ks h => by simp [eqflat] at h
  | succ d ih =>
    intro t ks h D xs ys hx hy w
    have e : d + 1 + D = (d + D) + 1 := by omega
    rw [e]
    simp only [eqflat] at h
    split at h
    · rename_i k i h1 h2
      split at h
      · simp at h; subst h
        obtain ⟨a, rfl⟩ := wfC_int hx
        obtain ⟨b, rfl⟩ := wfC_int hy
        simp only [valOf, h1, List.headD_cons, cellsEq, cellEq, Bool.and_true]
        exact run_equalIn_int w _ _ _ _ _ _ h1
      · cases h
    · rename_i i h1 h2
      split at h
      · simp at h; subst h
        obtain ⟨a, rfl⟩ := wfC_bool hx
        obtain ⟨b, rfl⟩ := wfC_bool hy
        simp only [valOf, h1, List.headD_cons, cellsEq, cellEq, Bool.and_true]
        exact run_equalInB h1 _ _ _ _
      · cases h
    · rename_i fs i h1 h2
      split at h
      · cases h
      · rename_i hst
        have hf : P.fieldsOf t = fs := by simp [Program.fieldsOf, h1]
        simp only [valOf, h1]
        rw [run_equalIn_struct w _ _ _ _ (by rw [hf]; exact h1) (by simpa using hst), hf]
        exact fields_sound P d ih fs.toList 0 ks h D [] [] xs ys rfl rfl hx hy w
    · rename_i n e i h1 h2
      split at h
      · rename_i ks' i' h3 h4
        split at h
        · rename_i hsz
          simp at h
          simp only [valOf, h1]
          rw [run_equalIn_array w _ _ _ h1 h4]
          have hc : P.cellsOf e = ks'.length := by simp [Program.cellsOf, h4, hsz]
          rw [hc]
          -- the elements one by one
          have key : ∀ (m k : Nat) (pre pre' xs ys : List Value), pre.length = k * ks'.length → pre'.length = k * ks'.length → wfC (List.replicate m ks').flatten xs = true → wfC (List.replicate m ks').flatten ys = true → ∀ w,
              (Op.eqItems (d + D) e ks'.length (pre ++ xs).toArray (pre' ++ ys).toArray (List.range' k m)).run P w = .ok (cellsEq xs ys) w := by
            intro m
            induction m with
            | zero =>
              intro k pre pre' xs ys _ _ hx hy w
              have := wfC_len hx; have := wfC_len hy; simp at *
              subst_vars; simp [Op.eqItems, cellsEq]
            | succ m ihm =>
              intro k pre pre' xs ys hp hp' hx hy w
              rw [List.replicate_succ, List.flatten_cons] at hx hy
              obtain ⟨hx1, hx2⟩ := wfC_append hx
              obtain ⟨hy1, hy2⟩ := wfC_append hy
              have lx := wfC_len hx; have ly := wfC_len hy
              have lx1 := wfC_len hx1; have ly1 := wfC_len hy1
              simp only [List.length_append] at lx ly
              obtain ⟨x, ii, q1, q2, q3⟩ := eqflat_size h3
              have hii : ii = i' := by rw [h4] at q2; exact (Option.some.inj q2).symm
              subst hii
              have hs : 0 < ii.size ∨ (∃ fs, x = .struct fs) ∨ (∃ n e, x = .array n e) := by
                rcases q3 with ⟨_, _, _, h⟩ | ⟨_, _, h⟩ | h | h
                · exact .inl (by omega)
                · exact .inl (by omega)
                · exact .inr (.inl h)
                · exact .inr (.inr h)
              have p1 := run_part_valOf q1 q2 hs (pre ++ xs) (k * ks'.length) (by simp; omega) w
              have p2 := run_part_valOf q1 q2 hs (pre' ++ ys) (k * ks'.length) (by simp; omega) w
              rw [← hp, List.drop_left, hsz] at p1
              rw [← hp', List.drop_left, hsz] at p2
              rw [hp] at p1; rw [hp'] at p2
              have p3 := (ih e ks' h3 D _ _ hx1 hy1 w)
              rw [List.range'_succ]
              simp only [Op.eqItems, Sem.run_bind, p1, p2, p3, Result.andThen_ok]
              rw [cellsEq_split ks'.length xs ys (by omega)]
              cases hq : cellsEq (xs.take ks'.length) (ys.take ks'.length)
              · simp
              · simp only [Bool.not_true, Bool.false_eq_true, if_false, Bool.true_and]
                have := ihm (k + 1) (pre ++ xs.take ks'.length) (pre' ++ ys.take ks'.length) (xs.drop ks'.length) (ys.drop ks'.length) (by simp [Nat.succ_mul]; omega) (by simp [Nat.succ_mul]; omega) hx2 hy2 w
                simpa [List.append_assoc] using this
          have := key n 0 [] [] xs ys (by simp) (by simp) (by rw [h]; exact hx) (by rw [h]; exact hy) w
          rw [List.range_eq_range']
          exact this
        · cases h
      · cases h
    · cases h

class EqK (P : Program) (t : Nat) (ks : outParam (List CK)) : Prop where
  is : eqflat P 6 t = some ks
  agg : (tyk P t).map (·.1) = some true
  guard : P.eqGuardType P.depth t = false
theorem run_eqlS {P : Program} {t : Nat} {ks : List CK} (h : EqK P t ks) {xs ys : List Value} (hx : wfC ks xs = true) (hy : wfC ks ys = true) (w : World) : (Op.equal t (.agg xs.toArray) (.agg ys.toArray)).run P w = .ok (cellsEq xs ys) w := by
  have h1 := eq_sound P 6 t ks h.is 9994 xs ys hx hy w
  have h2 : ∀ vs, valOf P t vs = .agg vs.toArray := fun vs => by
    have ha := h.agg
    unfold tyk at ha
    unfold valOf
    split at ha <;> rename_i e1 e2 <;> first | (rw [e1]) | (simp at ha)
    rename_i hno1 hno2 
    split <;> first | rfl | (rename_i hno3 hno4; exact absurd ha (by simp))
  rw [h2, h2] at h1
  exact h1
section
variable {Γ : Cx} {ρ : Nat → Value} {I : Mem} {L : List HP} {ty : TypeId}
theorem run_eqGuardS {P : Program} {t : Nat} (h : P.eqGuardType P.depth t = false) (op : BinOp) (hop : op = .eql ∨ op = .neq) (x y : Operand) (xs ys : Array Value) (w : World) : (eqGuard op t x y (.agg xs) (.agg ys)).run P w = .ok () w := by
  rcases hop with rfl | rfl <;> simp [eqGuard, Sem.run_bind, run_program, h]
theorem Val.eqlS {t t' : Nat} {x y : Operand} {ks : List CK} {xs ys : List Value} [hk : EqK Γ.P t ks] (hx : ev ρ x = .agg xs.toArray) (hy : ev ρ y = .agg ys.toArray) (wx : wfC ks xs = true) (wy : wfC ks ys = true) :
    Val Γ ρ I L (.binOp .eql t x y t') ty (.bool (cellsEq xs ys)) := fun w _ => by
  simp only [execOp, hx, hy, Sem.run_bind, run_eqGuardS hk.guard .eql (.inl rfl), Result.andThen_ok, binOp, run_eqlS hk wx wy]; rfl
theorem Val.neqS {t t' : Nat} {x y : Operand} {ks : List CK} {xs ys : List Value} [hk : EqK Γ.P t ks] (hx : ev ρ x = .agg xs.toArray) (hy : ev ρ y = .agg ys.toArray) (wx : wfC ks xs = true) (wy : wfC ks ys = true) :
    Val Γ ρ I L (.binOp .neq t x y t') ty (.bool (!cellsEq xs ys)) := fun w _ => by
  simp only [execOp, hx, hy, Sem.run_bind, run_eqGuardS hk.guard .neq (.inr rfl), Result.andThen_ok, binOp, run_eqlS hk wx wy]; rfl
theorem cellsEq_self : ∀ {ks : List CK} {xs : List Value}, wfC ks xs = true → cellsEq xs xs = true
  | [], [], _ => rfl
  | k :: ks, v :: xs, h => by
    simp only [wfC, Bool.and_eq_true] at h
    simp only [cellsEq, cellsEq_self h.2, Bool.and_true]
    have := h.1
    cases k <;> cases v <;> simp_all [CK.ok, cellEq]
  | [], _ :: _, h => by simp [wfC] at h
  | _ :: _, [], h => by simp [wfC] at h
theorem Val.eqlSame {t t' : Nat} {x y : Operand} {ks : List CK} {xs : List Value} [hk : EqK Γ.P t ks] (hx : ev ρ x = .agg xs.toArray) (hy : ev ρ y = .agg xs.toArray) (wx : wfC ks xs = true) :
    Val Γ ρ I L (.binOp .eql t x y t') ty (.bool true) := by
  have := Val.eqlS (Γ := Γ) (t := t) (I := I) (L := L) (ty := ty) (t' := t') hx hy wx wx
  rwa [cellsEq_self wx] at this
theorem Val.neqSame {t t' : Nat} {x y : Operand} {ks : List CK} {xs : List Value} [hk : EqK Γ.P t ks] (hx : ev ρ x = .agg xs.toArray) (hy : ev ρ y = .agg xs.toArray) (wx : wfC ks xs = true) :
    Val Γ ρ I L (.binOp .neq t x y t') ty (.bool false) := by
  have := Val.neqS (Γ := Γ) (t := t) (I := I) (L := L) (ty := ty) (t' := t') hx hy wx wx
  rwa [cellsEq_self wx] at this
end
end Go.Sl
