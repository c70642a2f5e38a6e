/-
 '==' of structs and arrays of numbers and bools.
-/
import Derived.Test.YtggcpoleklcmkaaGreatDoorX1
import Derived.Laws.StructEq
import Derived.ChangeKeysEq
import Derived.Laws.BytesString
import Derived.Below
import Derived.Deep.Slices
set_option linter.unusedVariables false
set_option linter.unusedSimpArgs false
set_option maxRecDepth 100000
set_option maxHeartbeats 8000000
namespace Go.Sl
open Go.RowKit
inductive CK where
 | i (k : IntKind)
 | b
 deriving DecidableEq
def CK.ok : CK → Value → Bool
 | .i k, .int k' _ => decide (k = k')
 | .b, .bool _ => true
 | _, _ => false
def wfC : List CK → List Value → Bool
 | [], [] => true
 | k :: ks, v :: vs => k.ok v && wfC ks vs
 | _, _ => false
def cellEq : Value → Value → Bool
 | .int _ a, .int _ b => a == b
 | .bool a, .bool b => a == b
 | _, _ => false
def cellsEq : List Value → List Value → Bool
 | x :: xs, y :: ys => cellEq x y && cellsEq xs ys
 | _, _ => true
theorem wfC_len : ∀ {ks : List CK} {vs : List Value}, wfC ks vs = true → vs.length = ks.length
 | [], [], _ => rfl
 | k :: ks, v :: vs, h => by simp [wfC] at h; simp [wfC_len h.2]
 | [], _ :: _, h => by simp [wfC] at h
 | _ :: _, [], h => by simp [wfC] at h
theorem wfC_int {k : IntKind} {vs : List Value} (h : wfC [.i k] vs = true) : ∃ a, vs = [.int k a] := by
 have hl := wfC_len h
 cases vs with
 | nil => simp at hl
 | cons v vs =>
  simp at hl; subst hl
  simp [wfC] at h
  cases v <;> simp [CK.ok] at h
  subst h; exact ⟨_, rfl⟩
theorem wfC_bool {vs : List Value} (h : wfC [.b] vs = true) : ∃ a, vs = [.bool a] := by
 have hl := wfC_len h
 cases vs with
 | nil => simp at hl
 | cons v vs =>
  simp at hl; subst hl
  simp [wfC] at h
  cases v <;> simp [CK.ok] at h
  exact ⟨_, rfl⟩
theorem wfC_append : ∀ {ks ks' : List CK} {vs : List Value}, wfC (ks ++ ks') vs = true → wfC ks (vs.take ks.length) = true ∧ wfC ks' (vs.drop ks.length) = true
 | [], ks', vs, h => by simpa [wfC] using h
 | k :: ks, ks', v :: vs, h => by
  simp [wfC] at h ⊢
  exact ⟨⟨h.1, (wfC_append h.2).1⟩, (wfC_append h.2).2⟩
 | k :: ks, ks', [], h => by simp [wfC] at h
theorem cellsEq_split : ∀ (n : Nat) (xs ys : List Value), xs.length = ys.length → cellsEq xs ys = (cellsEq (xs.take n) (ys.take n) && cellsEq (xs.drop n) (ys.drop n))
 | 0, xs, ys, h => by simp [cellsEq]
 | n + 1, [], [], h => by simp [cellsEq]
 | n + 1, x :: xs, y :: ys, h => by
  simp at h
  simp only [List.take_succ_cons, List.drop_succ_cons, cellsEq, Bool.and_assoc]
  rw [cellsEq_split n xs ys h]
 | n + 1, [], y :: ys, h => by simp at h
 | n + 1, x :: xs, [], h => by simp at h
def eqfields (P : Program) (rc : TypeId → Option (List CK)) : Nat → List Field → Option (List CK)
 | _, [] => some []
 | off, f :: fs =>
  if f.name = "_" ∨ f.offset ≠ off then none else
  match rc f.type, P.info? f.type with
  | some ks, some i => if i.size = ks.length then (eqfields P rc (off + ks.length) fs).map (ks ++ ·) else none
  | _, _ => none
def eqflat (P : Program) : Nat → TypeId → Option (List CK)
 | 0, _ => none
 | d + 1, t =>
  match P.underlying t, P.info? t with
  | some (.int k), some i => if i.size = 1 then some [.i k] else none
  | some .bool, some i => if i.size = 1 then some [.b] else none
  | some (.struct fs), some i => if P.stoodInHeld t then none else eqfields P (eqflat P d) 0 fs.toList
  | some (.array n e), some _ => match eqflat P d e, P.info? e with
   | some ks, some i => if i.size = ks.length then some (List.replicate n ks).flatten else none
   | _, _ => none
  | _, _ => none
def valOf (P : Program) (t : TypeId) (vs : List Value) : Value :=
 match P.underlying t with
 | some (.struct _) | some (.array _ _) => .agg vs.toArray
 | _ => vs.headD undef
theorem run_part_valOf {P : Program} {t : TypeId} {i : TypeInfo} {d : TypeDesc} (hd : P.underlying t = some d) (hi : P.info? t = some i) (hs : 0 < i.size ∨ (∃ fs, d = .struct fs) ∨ (∃ n e, d = .array n e)) (cs : List Value) (off : Nat) (h : off + i.size ≤ cs.length) (w : World) :
  (part t cs.toArray off).run P w = .ok (valOf P t ((cs.drop off).take i.size)) w := by
 have hz : (sizeOf t).run P w = .ok i.size w := by rw [run_sizeOf w hi]; simp [Program.cellsOf, hi]
 have agg : (cs.toArray.extract off (off + i.size)) = ((cs.drop off).take i.size).toArray := by
  apply Array.ext'; simp
 unfold part isAgg valOf
 simp only [Sem.run_bind, run_underlying hd, Result.andThen_ok]
 cases d
 case struct fs => rw [hd]; simp only [pure_bind, Sem.run_pure, Result.andThen_ok, if_true, Sem.run_bind, hz, agg]
 case array n e => rw [hd]; simp only [pure_bind, Sem.run_pure, Result.andThen_ok, if_true, Sem.run_bind, hz, agg]
 all_goals
  rw [hd]
  simp only [Sem.run_pure, Result.andThen_ok, Bool.false_eq_true, if_false]
  have h0 : 0 < i.size := by
   rcases hs with h | ⟨_, h⟩ | ⟨_, _, h⟩
   ·exact h
   ·cases h
   ·cases h
  have hlt : off < cs.length := by omega
  have : cs.toArray[off]? = some cs[off] := by simp [hlt]
  simp only [this]
  rw [List.drop_eq_getElem_cons hlt]
  obtain ⟨n, hn⟩ : ∃ n, i.size = n + 1 := ⟨i.size - 1, by omega⟩
  rw [hn, List.take_succ_cons]
  rfl
theorem eqflat_size {P : Program} {d : Nat} {t : TypeId} {ks : List CK} (h : eqflat P d t = some ks) : ∃ x i, P.underlying t = some x ∧ P.info? t = some i ∧ ((∃ k, x = .int k ∧ ks = [.i k] ∧ i.size = 1) ∨ (x = .bool ∧ ks = [.b] ∧ i.size = 1) ∨ (∃ fs, x = .struct fs) ∨ (∃ n e, x = .array n e)) := by
 cases d with
 | zero => simp [eqflat] at h
 | succ d =>
  simp only [eqflat] at h
  split at h
  ·rename_i k i h1 h2
   split at h
   ·simp at h; exact ⟨_, _, h1, h2, .inl ⟨k, rfl, h.symm, by assumption⟩⟩
   ·cases h
  ·rename_i i h1 h2
   split at h
   ·simp at h; exact ⟨_, _, h1, h2, .inr (.inl ⟨rfl, h.symm, by assumption⟩)⟩
   ·cases h
  ·rename_i fs i h1 h2; exact ⟨_, _, h1, h2, .inr (.inr (.inl ⟨fs, rfl⟩))⟩
  ·rename_i n e i h1 h2; exact ⟨_, _, h1, h2, .inr (.inr (.inr ⟨n, e, rfl⟩))⟩
  ·cases h
def EqOk (P : Program) (d : Nat) : Prop := ∀ (t : TypeId) (ks : List CK), eqflat P d t = some ks → ∀ (D : Nat) (xs ys : List Value), wfC ks xs = true → wfC ks ys = true → ∀ w, (Op.equalIn (d + D) t (valOf P t xs) (valOf P t ys)).run P w = .ok (cellsEq xs ys) w
theorem fields_sound (P : Program) (d : Nat) (first : EqOk P d) : ∀ (fs : List Field) (off : Nat) (ks : List CK), eqfields P (eqflat P d) off fs = some ks → ∀ (D : Nat) (pre pre' xs ys : List Value), pre.length = off → pre'.length = off → wfC ks xs = true → wfC ks ys = true → ∀ w,
   (Op.eqFields (d + D) (pre ++ xs).toArray (pre' ++ ys).toArray fs).run P w = .ok (cellsEq xs ys) w := by
 intro fs
 induction fs with
 | nil =>
  intro off ks h D pre pre' xs ys hp hp' hx hy w
  simp [eqfields] at h; subst h
  have := wfC_len hx; have := wfC_len hy; simp at *
  subst_vars; simp [Op.eqFields, cellsEq]
 | cons f fs ihf =>
  intro off ks h D pre pre' xs ys hp hp' hx hy w
  simp only [eqfields] at h
  split at h
  ·cases h
  ·rename_i hn
   simp only [not_or, Decidable.not_not] at hn
   split at h
   ·rename_i ks' i' h3 h4
    split at h
    ·rename_i hsz
     simp only [Option.map_eq_some_iff] at h
     obtain ⟨ks2, hk2, rfl⟩ := h
     obtain ⟨hx1, hx2⟩ := wfC_append hx
     obtain ⟨hy1, hy2⟩ := wfC_append hy
     have lx := wfC_len hx; have ly := wfC_len hy
     have lx1 := wfC_len hx1; have ly1 := wfC_len hy1
     simp only [List.length_append] at lx ly
     obtain ⟨x, ii, q1, q2, q3⟩ := eqflat_size h3
     have hii : ii = i' := by rw [h4] at q2; exact (Option.some.inj q2).symm
     subst hii
     have hs : 0 < ii.size ∨ (∃ fs, x = .struct fs) ∨ (∃ n e, x = .array n e) := by
      rcases q3 with ⟨_, _, _, h⟩ | ⟨_, _, h⟩ | h | h
      ·exact .inl (by omega)
      ·exact .inl (by omega)
      ·exact .inr (.inl h)
      ·exact .inr (.inr h)
     have p1 := run_part_valOf q1 q2 hs (pre ++ xs) f.offset (by simp; omega) w
     have p2 := run_part_valOf q1 q2 hs (pre' ++ ys) f.offset (by simp; omega) w
     rw [hn.2, ← hp, List.drop_left, hsz] at p1
     rw [hn.2, ← hp', List.drop_left, hsz] at p2
     rw [hp] at p1; rw [hp'] at p2
     have p3 := first f.type ks' h3 D _ _ hx1 hy1 w
     simp only [Op.eqFields, hn.1, ne_eq, not_false_eq_true, if_true, Sem.run_bind, hn.2, p1, p2, p3, Result.andThen_ok]
     rw [cellsEq_split ks'.length xs ys (by omega)]
     cases hq : cellsEq (xs.take ks'.length) (ys.take ks'.length)
     ·simp
     ·simp only [Bool.not_true, Bool.false_eq_true, if_false, Bool.true_and]
      have := ihf (off + ks'.length) ks2 hk2 D (pre ++ xs.take ks'.length) (pre' ++ ys.take ks'.length) (xs.drop ks'.length) (ys.drop ks'.length) (by simp; omega) (by simp; omega) hx2 hy2 w
      simpa [List.append_assoc] using this
    ·cases h
   ·cases h
theorem eq_sound (P : Program) : ∀ (d : Nat), EqOk P d := by
 intro d
 induction d with
 | zero => exact fun t ks h => by simp [eqflat] at h
 | succ d ih =>
  intro t ks h D xs ys hx hy w
  have e : d + 1 + D = (d + D) + 1 := by omega
  rw [e]
  simp only [eqflat] at h
  split at h
  ·rename_i k i h1 h2
   split at h
   ·simp at h; subst h
    obtain ⟨a, rfl⟩ := wfC_int hx
    obtain ⟨b, rfl⟩ := wfC_int hy
    simp only [valOf, h1, List.headD_cons, cellsEq, cellEq, Bool.and_true]
    exact run_equalIn_int w _ _ _ _ _ _ h1
   ·cases h
  ·rename_i i h1 h2
   split at h
   ·simp at h; subst h
    obtain ⟨a, rfl⟩ := wfC_bool hx
    obtain ⟨b, rfl⟩ := wfC_bool hy
    simp only [valOf, h1, List.headD_cons, cellsEq, cellEq, Bool.and_true]
    exact run_equalInB h1 _ _ _ _
   ·cases h
  ·rename_i fs i h1 h2
   split at h
   ·cases h
   ·rename_i hst
    have hf : P.fieldsOf t = fs := by simp [Program.fieldsOf, h1]
    simp only [valOf, h1]
    rw [run_equalIn_struct w _ _ _ _ (by rw [hf]; exact h1) (by simpa using hst), hf]
    exact fields_sound P d ih fs.toList 0 ks h D [] [] xs ys rfl rfl hx hy w
  ·rename_i n e i h1 h2
   split at h
   ·rename_i ks' i' h3 h4
    split at h
    ·rename_i hsz
     simp at h
     simp only [valOf, h1]
     rw [run_equalIn_array w _ _ _ h1 h4]
     have hc : P.cellsOf e = ks'.length := by simp [Program.cellsOf, h4, hsz]
     rw [hc]
     -- the elements one by one
     have key : ∀ (m k : Nat) (pre pre' xs ys : List Value), pre.length = k * ks'.length → pre'.length = k * ks'.length → wfC (List.replicate m ks').flatten xs = true → wfC (List.replicate m ks').flatten ys = true → ∀ w,
       (Op.eqItems (d + D) e ks'.length (pre ++ xs).toArray (pre' ++ ys).toArray (List.range' k m)).run P w = .ok (cellsEq xs ys) w := by
      intro m
      induction m with
      | zero =>
       intro k pre pre' xs ys _ _ hx hy w
       have := wfC_len hx; have := wfC_len hy; simp at *
       subst_vars; simp [Op.eqItems, cellsEq]
      | succ m ihm =>
       intro k pre pre' xs ys hp hp' hx hy w
       rw [List.replicate_succ, List.flatten_cons] at hx hy
       obtain ⟨hx1, hx2⟩ := wfC_append hx
       obtain ⟨hy1, hy2⟩ := wfC_append hy
       have lx := wfC_len hx; have ly := wfC_len hy
       have lx1 := wfC_len hx1; have ly1 := wfC_len hy1
       simp only [List.length_append] at lx ly
       obtain ⟨x, ii, q1, q2, q3⟩ := eqflat_size h3
       have hii : ii = i' := by rw [h4] at q2; exact (Option.some.inj q2).symm
       subst hii
       have hs : 0 < ii.size ∨ (∃ fs, x = .struct fs) ∨ (∃ n e, x = .array n e) := by
        rcases q3 with ⟨_, _, _, h⟩ | ⟨_, _, h⟩ | h | h
        ·exact .inl (by omega)
        ·exact .inl (by omega)
        ·exact .inr (.inl h)
        ·exact .inr (.inr h)
       have p1 := run_part_valOf q1 q2 hs (pre ++ xs) (k * ks'.length) (by simp; omega) w
       have p2 := run_part_valOf q1 q2 hs (pre' ++ ys) (k * ks'.length) (by simp; omega) w
       rw [← hp, List.drop_left, hsz] at p1
       rw [← hp', List.drop_left, hsz] at p2
       rw [hp] at p1; rw [hp'] at p2
       have p3 := (ih e ks' h3 D _ _ hx1 hy1 w)
       rw [List.range'_succ]
       simp only [Op.eqItems, Sem.run_bind, p1, p2, p3, Result.andThen_ok]
       rw [cellsEq_split ks'.length xs ys (by omega)]
       cases hq : cellsEq (xs.take ks'.length) (ys.take ks'.length)
       ·simp
       ·simp only [Bool.not_true, Bool.false_eq_true, if_false, Bool.true_and]
        have := ihm (k + 1) (pre ++ xs.take ks'.length) (pre' ++ ys.take ks'.length) (xs.drop ks'.length) (ys.drop ks'.length) (by simp [Nat.succ_mul]; omega) (by simp [Nat.succ_mul]; omega) hx2 hy2 w
        simpa [List.append_assoc] using this
     have := key n 0 [] [] xs ys (by simp) (by simp) (by rw [h]; exact hx) (by rw [h]; exact hy) w
     rw [List.range_eq_range']
     exact this
    ·cases h
   ·cases h
  ·cases h
class EqK (P : Program) (t : Nat) (ks : outParam (List CK)) : Prop where
 is : eqflat P 6 t = some ks
 agg : (tyk P t).map (·.1) = some true
 guard : P.eqGuardType P.depth t = false
theorem run_eqlS {P : Program} {t : Nat} {ks : List CK} (h : EqK P t ks) {xs ys : List Value} (hx : wfC ks xs = true) (hy : wfC ks ys = true) (w : World) : (Op.equal t (.agg xs.toArray) (.agg ys.toArray)).run P w = .ok (cellsEq xs ys) w := by
 have h1 := eq_sound P 6 t ks h.is 9994 xs ys hx hy w
 have h2 : ∀ vs, valOf P t vs = .agg vs.toArray := fun vs => by
  have ha := h.agg
  unfold tyk at ha
  unfold valOf
  split at ha <;> rename_i e1 e2 <;> first | (rw [e1]) | (simp at ha)
  rename_i hno1 hno2 
  split <;> first | rfl | (rename_i hno3 hno4; exact absurd ha (by simp))
 rw [h2, h2] at h1
 exact h1
section
variable {Γ : Cx} {ρ : Nat → Value} {I : Mem} {L : List HP} {ty : TypeId}
theorem run_eqGuardS {P : Program} {t : Nat} (h : P.eqGuardType P.depth t = false) (op : BinOp) (hop : op = .eql ∨ op = .neq) (x y : Operand) (xs ys : Array Value) (w : World) : (eqGuard op t x y (.agg xs) (.agg ys)).run P w = .ok () w := by
 rcases hop with rfl | rfl <;> simp [eqGuard, Sem.run_bind, run_program, h]
theorem Val.eqlS {t t' : Nat} {x y : Operand} {ks : List CK} {xs ys : List Value} [hk : EqK Γ.P t ks] (hx : ev ρ x = .agg xs.toArray) (hy : ev ρ y = .agg ys.toArray) (wx : wfC ks xs = true) (wy : wfC ks ys = true) :
  Val Γ ρ I L (.binOp .eql t x y t') ty (.bool (cellsEq xs ys)) := fun w _ => by
 simp only [execOp, hx, hy, Sem.run_bind, run_eqGuardS hk.guard .eql (.inl rfl), Result.andThen_ok, binOp, run_eqlS hk wx wy]; rfl
theorem Val.neqS {t t' : Nat} {x y : Operand} {ks : List CK} {xs ys : List Value} [hk : EqK Γ.P t ks] (hx : ev ρ x = .agg xs.toArray) (hy : ev ρ y = .agg ys.toArray) (wx : wfC ks xs = true) (wy : wfC ks ys = true) :
  Val Γ ρ I L (.binOp .neq t x y t') ty (.bool (!cellsEq xs ys)) := fun w _ => by
 simp only [execOp, hx, hy, Sem.run_bind, run_eqGuardS hk.guard .neq (.inr rfl), Result.andThen_ok, binOp, run_eqlS hk wx wy]; rfl
theorem cellsEq_self : ∀ {ks : List CK} {xs : List Value}, wfC ks xs = true → cellsEq xs xs = true
 | [], [], _ => rfl
 | k :: ks, v :: xs, h => by
  simp only [wfC, Bool.and_eq_true] at h
  simp only [cellsEq, cellsEq_self h.2, Bool.and_true]
  have := h.1
  cases k <;> cases v <;> simp_all [CK.ok, cellEq]
 | [], _ :: _, h => by simp [wfC] at h
 | _ :: _, [], h => by simp [wfC] at h
theorem Val.eqlSame {t t' : Nat} {x y : Operand} {ks : List CK} {xs : List Value} [hk : EqK Γ.P t ks] (hx : ev ρ x = .agg xs.toArray) (hy : ev ρ y = .agg xs.toArray) (wx : wfC ks xs = true) :
  Val Γ ρ I L (.binOp .eql t x y t') ty (.bool true) := by
 have := Val.eqlS (Γ := Γ) (t := t) (I := I) (L := L) (ty := ty) (t' := t') hx hy wx wx
 rwa [cellsEq_self wx] at this
theorem Val.neqSame {t t' : Nat} {x y : Operand} {ks : List CK} {xs : List Value} [hk : EqK Γ.P t ks] (hx : ev ρ x = .agg xs.toArray) (hy : ev ρ y = .agg xs.toArray) (wx : wfC ks xs = true) :
  Val Γ ρ I L (.binOp .neq t x y t') ty (.bool false) := by
 have := Val.neqS (Γ := Γ) (t := t) (I := I) (L := L) (ty := ty) (t' := t') hx hy wx wx
 rwa [cellsEq_self wx] at this
end
end Go.Sl

namespace Go.Sl
section
variable {Γ : Cx} {ops : Array Oper} {rest : List Oper} {ρ : Nat → Value} {I : Mem} {L : List HP} {Q : Post} {ty : TypeId} {ps : String} {af : Array Edge} {d : Option Nat}
end
section
variable {Γ : Cx} {ρ : Nat → Value} {I : Mem} {L : List HP}
theorem ResIs.tmpI {t : Nat} {k : IntKind} {m : Int} (h : ρ t = .int k m) : ResIs Γ ρ I L (.tmp t) (.int k m) := ResIs.tmp h
theorem ResIs.tmpB {t : Nat} {b : Bool} (h : ρ t = .bool b) : ResIs Γ ρ I L (.tmp t) (.bool b) := ResIs.tmp h
theorem ResIs.tmpP {t : Nat} {p : Option Addr} (h : ρ t = .pointer p) : ResIs Γ ρ I L (.tmp t) (.pointer p) := ResIs.tmp h
theorem ResIs.tmpS {t : Nat} {p : Option Addr} {m n : Nat} (h : ρ t = .slice p m n) : ResIs Γ ρ I L (.tmp t) (.slice p m n) := ResIs.tmp h
end
end Go.Sl

namespace Go.Sl
open Go.RowKit
def SlAt (I : Mem) (v : Value) (n : Nat) (cs : List Value) : Prop :=
 ∃ a cap, v = .slice a n cap ∧ (n ≤ cap ∧ cap ≤ maxLen) ∧ ((n = 0 ∧ cs = []) ∨ ∃ b off, a = some ⟨b, off, none⟩ ∧ At I b off cs)
theorem SlAt.mono {I I' : Mem} {v : Value} {n : Nat} {cs : List Value} (h : SlAt I v n cs) (hI : I.le I') : SlAt I' v n cs := by
 obtain ⟨a, cap, hv, hc, h⟩ := h
 exact ⟨a, cap, hv, hc, h.imp id fun ⟨b, off, h1, h2⟩ => ⟨b, off, h1, h2.mono hI⟩⟩
theorem SlAt.nil (I : Mem) : SlAt I (.slice none 0 0) 0 [] := ⟨none, 0, rfl, ⟨Nat.le_refl _, Nat.zero_le _⟩, .inl ⟨rfl, rfl⟩⟩
abbrev byt (x : Fin 256) : Value := .int .u8 (x.val : Int)
theorem At.drop {I : Mem} {b off : Nat} {cs : List Value} (h : At I b off cs) (k : Nat) : At I b (off + k) (cs.drop k) := by
 obtain ⟨c, ty, fr, h1, h2⟩ := h
 refine ⟨c, ty, fr, h1, fun j v hj => ?_⟩
 rw [List.getElem?_drop] at hj
 have := h2 _ _ hj
 rwa [← Nat.add_assoc] at this
theorem At.take {I : Mem} {b off : Nat} {cs : List Value} (h : At I b off cs) (k : Nat) : At I b off (cs.take k) := by
 obtain ⟨c, ty, fr, h1, h2⟩ := h
 refine ⟨c, ty, fr, h1, fun j v hj => ?_⟩
 rw [List.getElem?_take] at hj
 split at hj
 ·exact h2 _ _ hj
 ·cases hj
theorem SlAt.le {I : Mem} {v : Value} {n : Nat} {cs : List Value} (h : SlAt I v n cs) : n ≤ maxLen := by
 obtain ⟨a, cap, hv, hc, _⟩ := h; exact Nat.le_trans hc.1 hc.2
theorem Sat.freezeAt {E : Ev} {w : World} {I : Mem} {L : List HP} {e sz n : Nat} {v : Value} {xs : List Value} (h : Sat E w I (sl e sz v n xs :: L)) : ∃ I', I.le I' ∧ Sat E w I' L ∧ SlAt I' v n xs := by
 obtain ⟨I', h1, h2, ⟨rfl, rfl, rfl⟩ | ⟨g, cap, rfl, hc, hm, h3⟩⟩ := h.sl_freeze
 ·exact ⟨I', h1, h2, SlAt.nil _⟩
 ·exact ⟨I', h1, h2, _, _, rfl, ⟨hc, hm⟩, .inr ⟨g, 0, rfl, h3⟩⟩
section
variable {Γ : Cx} {ops : Array Oper} {rest : List Oper} {ρ : Nat → Value} {I : Mem} {L : List HP} {Q : Post} {ty : TypeId} {ps : String} {af : Array Edge}
theorem WC.slNil {c : Code} (e sz : Nat) (next : WC Γ c ρ I (L ++ [sl e sz (.slice none 0 0) 0 []]) Q) : WC Γ c ρ I L Q := fun a w ha hw => next a w ha ((hw.sl_nil (e := e) (sz := sz)).perm (List.perm_append_comm (l₁ := [_])))
theorem WL.slNil (e sz : Nat) (next : WL Γ ops rest ρ I (L ++ [sl e sz (.slice none 0 0) 0 []]) Q) : WL Γ ops rest ρ I L Q := fun a w ha hw => next a w ha ((hw.sl_nil (e := e) (sz := sz)).perm (List.perm_append_comm (l₁ := [_])))
theorem Val.eqlNil {t t' e n len cap : Nat} {a : Option Addr} {x : Operand} [hk : SlK Γ.P t e n] (hx : ev ρ x = .slice a len cap) : Val Γ ρ I L (.binOp .eql t x (.const (.slice none 0 0)) t') ty (.bool a.isNone) :=
 fun w _ => by
  obtain ⟨hu, _⟩ := SlK.und hk.is
  have h1 : (Op.equal t (.slice a len cap) (.slice none 0 0)).run Γ.P w = .ok a.isNone w := by
   unfold Op.equal Op.maxDepth
   show (Op.equalIn (9999 + 1) t (.slice a len cap) (.slice none 0 0)).run Γ.P w = _
   unfold Op.equalIn
   cases a <;> (simp only [Sem.run_bind, run_underlying hu, Result.andThen_ok]; rfl)
  simp only [execOp, hx]
  simp [eqGuard, binOp, h1, ev]
  all_goals rfl
/-! strings of bytes -/
theorem Val.makeFuncL {fn : Fn} {p q : List Operand} : Val Γ ρ I L (.makeFunc fn p.toArray q.toArray) ty (.func fn (p.map (ev ρ)).toArray (q.map (ev ρ)).toArray) := fun w hw => by
 have := Val.makeFunc (Γ := Γ) (ρ := ρ) (I := I) (L := L) (ty := ty) (fn := fn) (p := p.toArray) (q := q.toArray) w hw
 simpa only [List.map_toArray] using this
class AddN (a b : Nat) (c : outParam Nat) : Prop where
 is : a + b = c
instance (priority := low) {a b : Nat} : AddN a b (a + b) := ⟨rfl⟩
instance {a : Nat} : AddN a 0 a := ⟨rfl⟩
instance (priority := high) {b : Nat} : AddN 0 b b := ⟨Nat.zero_add b⟩
theorem Val.fldAddr {s f b off o n o' : Nat} {g : Bool} {x : Operand} [hk : FldK Γ.P s f o g n] (hx : ev ρ x = .pointer (some ⟨b, off, none⟩)) [h : AddN off o o'] :
  Val Γ ρ I L (.fieldAddr s x f) ty (.pointer (some ⟨b, o', none⟩)) := by rw [← h.is]; exact Val.fieldAddr hx
/-! lists are kept written out -/
class SplL (cs : List Value) (off : Nat) (vs : List Value) (out : outParam (List Value)) : Prop where
 is : splice cs off vs = out
instance {cs : List Value} : SplL cs 0 [] cs := ⟨by simp [splice]⟩
instance {c v : Value} {cs vs o : List Value} [h : SplL cs 0 vs o] : SplL (c :: cs) 0 (v :: vs) (v :: o) := ⟨by
 have := h.is
 simp [splice] at this ⊢
 exact this⟩
instance {c : Value} {k : Nat} {cs vs o : List Value} [h : SplL cs k vs o] : SplL (c :: cs) (k + 1) vs (c :: o) := ⟨by
 have := h.is
 simp only [splice] at this ⊢
 rw [List.take_succ_cons, show k + 1 + vs.length = (k + vs.length) + 1 by omega, List.drop_succ_cons]
 simp only [List.cons_append, List.append_assoc] at this ⊢
 rw [this]⟩
class SetL (L : List HP) (k : Nat) (p : HP) (out : outParam (List HP)) : Prop where
 is : L.set k p = out
instance {L : List HP} {a p : HP} : SetL (a :: L) 0 p (p :: L) := ⟨rfl⟩
instance {L o : List HP} {a p : HP} {k : Nat} [h : SetL L k p o] : SetL (a :: L) (k + 1) p (a :: o) := ⟨by rw [List.set_cons_succ, h.is]⟩
class AppL (A B : List HP) (out : outParam (List HP)) : Prop where
 is : A ++ B = out
instance {B : List HP} : AppL [] B B := ⟨rfl⟩
instance {A B o : List HP} {a : HP} [h : AppL A B o] : AppL (a :: A) B (a :: o) := ⟨by rw [List.cons_append, h.is]⟩
class EraL (A : List HP) (k : Nat) (out : outParam (List HP)) : Prop where
 is : A.eraseIdx k = out
instance {A : List HP} {a : HP} : EraL (a :: A) 0 A := ⟨rfl⟩
instance {A o : List HP} {a : HP} {k : Nat} [h : EraL A k o] : EraL (a :: A) (k + 1) (a :: o) := ⟨by rw [List.eraseIdx_cons_succ, h.is]⟩
class PickL (ks : List Nat) (L : List HP) (xs r : outParam (List HP)) : Prop where
 is : picks ks L = some (xs, r)
class TakeL (k : Nat) (L : List HP) (p : outParam HP) (r : outParam (List HP)) : Prop where
 is : L[k]? = some p ∧ L.eraseIdx k = r
instance {L : List HP} {p : HP} : TakeL 0 (p :: L) p L := ⟨rfl, rfl⟩
instance {L r : List HP} {a p : HP} {k : Nat} [h : TakeL k L p r] : TakeL (k + 1) (a :: L) p (a :: r) := ⟨by rw [List.getElem?_cons_succ]; exact h.is.1, by rw [List.eraseIdx_cons_succ, h.is.2]⟩
instance {L : List HP} : PickL [] L [] L := ⟨rfl⟩
instance {L L1 xs r : List HP} {k : Nat} {ks : List Nat} {p : HP} [h : TakeL k L p L1] [h2 : PickL ks L1 xs r] : PickL (k :: ks) L (p :: xs) r := ⟨by
 unfold picks
 rw [h.is.1, h.is.2]
 simp only [h2.is]⟩
theorem WL.nApp {A B o : List HP} [h : AppL A B o] (next : WL Γ ops rest ρ I o Q) : WL Γ ops rest ρ I (A ++ B) Q := by rw [h.is]; exact next
theorem WL.nSet {A o : List HP} {k : Nat} {p : HP} [h : SetL A k p o] (next : WL Γ ops rest ρ I o Q) : WL Γ ops rest ρ I (A.set k p) Q := by rw [h.is]; exact next
theorem WC.nApp {c : Code} {A B o : List HP} [h : AppL A B o] (next : WC Γ c ρ I o Q) : WC Γ c ρ I (A ++ B) Q := by rw [h.is]; exact next
theorem WL.callP {d : Nat} {f : FuncId} {x : Operand} {args : List Operand} {ats : Array TypeId} {fs cp vs : List Value} {Lc Lr : List HP} {R : Value → Mem → List HP → Prop} (ks : List Nat) [hf : FnK Γ.P f]
  (hx : ev ρ x = .func (.func f) fs.toArray cp.toArray) (hv : fs ++ args.map (ev ρ) ++ cp = vs) [hp : PickL ks L Lc Lr] (hc : Ctr Γ.P f vs I Lc R) (hd : Nat.blt d Γ.n = true)
  (next : ∀ v I' L', I.le I' → R v I' L' → WL Γ ops rest (upd ρ d v) I' (Lr ++ L') Q) :
  WL Γ ops ({ dst := some d, op := .call { callee := .value x, args := args.toArray, argTypes := ats }, type := ty, pos := ps, after := af, guard := none } :: rest) ρ I L Q :=
 WL.call ks hx hv hp.is hc hd next
theorem WL.stI {t b off n bt : Nat} {g : Bool} {x y : Operand} {cs cs' : List Value} {L' : List HP} {kk : IntKind} {m : Int} (k : Nat) [hk : TyK Γ.P t g n] (hx : ev ρ x = .pointer (some ⟨b, off, none⟩)) (hL : L[k]? = some (Sl.box b bt cs)) (hy : ev ρ y = .int kk m)
  (hok : storeOk [.int kk m] n off cs.length = true) [h1 : SplL cs off [.int kk m] cs'] [h2 : SetL L k (Sl.box b bt cs') L'] (next : WL Γ ops rest ρ I L' Q) :
  WL Γ ops ({ dst := none, op := .store t x y, type := ty, pos := ps, after := af, guard := none } :: rest) ρ I L Q :=
 WL.store k hx hL (by rw [hy]; exact hok) (by rw [hy]; show WL Γ ops rest ρ I (L.set k (Sl.box b bt (splice cs off [.int kk m]))) Q; rw [h1.is, h2.is]; exact next)
theorem WL.stS {t b off n bt : Nat} {g : Bool} {x y : Operand} {cs cs' : List Value} {L' : List HP} {aa : Option Addr} {mm nn : Nat} (k : Nat) [hk : TyK Γ.P t g n] (hx : ev ρ x = .pointer (some ⟨b, off, none⟩)) (hL : L[k]? = some (Sl.box b bt cs)) (hy : ev ρ y = .slice aa mm nn)
  (hok : storeOk [.slice aa mm nn] n off cs.length = true) [h1 : SplL cs off [.slice aa mm nn] cs'] [h2 : SetL L k (Sl.box b bt cs') L'] (next : WL Γ ops rest ρ I L' Q) :
  WL Γ ops ({ dst := none, op := .store t x y, type := ty, pos := ps, after := af, guard := none } :: rest) ρ I L Q :=
 WL.store k hx hL (by rw [hy]; exact hok) (by rw [hy]; show WL Γ ops rest ρ I (L.set k (Sl.box b bt (splice cs off [.slice aa mm nn]))) Q; rw [h1.is, h2.is]; exact next)
theorem WL.stA {t b off n bt : Nat} {g : Bool} {x y : Operand} {cs cs' : List Value} {L' : List HP} {vs : List Value} (k : Nat) [hk : TyK Γ.P t g n] (hx : ev ρ x = .pointer (some ⟨b, off, none⟩)) (hL : L[k]? = some (Sl.box b bt cs)) (hy : ev ρ y = .agg vs.toArray)
  (hok : storeOk vs n off cs.length = true) [h1 : SplL cs off vs cs'] [h2 : SetL L k (Sl.box b bt cs') L'] (next : WL Γ ops rest ρ I L' Q) :
  WL Γ ops ({ dst := none, op := .store t x y, type := ty, pos := ps, after := af, guard := none } :: rest) ρ I L Q :=
 WL.store k hx hL (by rw [hy]; exact hok) (by rw [hy]; show WL Γ ops rest ρ I (L.set k (Sl.box b bt (splice cs off vs))) Q; rw [h1.is, h2.is]; exact next)
class SubL (cs : List Value) (off n : Nat) (out : outParam (List Value)) : Prop where
 is : (cs.drop off).take n = out
instance {cs : List Value} : SubL cs 0 0 [] := ⟨by simp⟩
instance {c : Value} {cs o : List Value} {n : Nat} [h : SubL cs 0 n o] : SubL (c :: cs) 0 (n + 1) (c :: o) := ⟨by have := h.is; simp at this ⊢; exact this⟩
instance {c : Value} {cs o : List Value} {k n : Nat} [h : SubL cs k n o] : SubL (c :: cs) (k + 1) n o := ⟨by rw [List.drop_succ_cons]; exact h.is⟩
theorem Val.ldO {t b off n bt : Nat} {x : Operand} {cs vs : List Value} (k : Nat) [hk : TyK Γ.P t true n] (hx : ev ρ x = .pointer (some ⟨b, off, none⟩)) (hL : L[k]? = some (Sl.box b bt cs)) (hc : Nat.ble (off + n) cs.length = true) [h : SubL cs off n vs] :
  Val Γ ρ I L (.load t x) ty (.agg vs.toArray) := by rw [← h.is]; exact Val.loadO k hx hL hc
theorem ResIs.cellL {x t n b off bt : Nat} {cs vs : List Value} (k : Nat) [hk : TyK Γ.P t true n] (h : ρ x = .pointer (some ⟨b, off, none⟩)) (hL : L[k]? = some (Sl.box b bt cs)) (hc : Nat.ble (off + n) cs.length = true) [h2 : SubL cs off n vs] :
  ResIs Γ ρ I L (.cell x t) (.agg vs.toArray) := by rw [← h2.is]; exact ResIs.cellO k h hL hc
theorem WX.doneP {fn : Func} {F : HP} {I0 : Mem} {L' Lr : List HP} {v : Value} {R : Value → Mem → List HP → Prop} (hres : RunRes Γ fn ρ I L v) (ks : List Nat) [hp : PickL (0 :: ks) L (F :: L') Lr] (hI : I0.le I) (hR : R v I L') (hds : Γ.ds = [] := by rfl) :
  WX Γ .ret ρ I L (bodyPost Γ.P fn (FnPost Γ.E F I0 R)) := WX.doneR hres ks hp.is hI hR hds
theorem WL.freeze {e sz n : Nat} {v : Value} {xs : List Value} {L' : List HP} (k : Nat) (hL : L[k]? = some (sl e sz v n xs)) [hE : EraL L k L'] (next : ∀ I', I.le I' → SlAt I' v n xs → WL Γ ops rest ρ I' L' Q) : WL Γ ops rest ρ I L Q := fun a w ha hw => by
 obtain ⟨I', h1, h2, h3⟩ := (hw.perm (pull k L _ hL)).freezeAt
 rw [hE.is] at h2
 exact next I' h1 h3 a w ha h2
theorem WX.freeze {c : Exit} {e sz n : Nat} {v : Value} {xs : List Value} {L' : List HP} (k : Nat) (hL : L[k]? = some (sl e sz v n xs)) [hE : EraL L k L'] (next : ∀ I', I.le I' → SlAt I' v n xs → WX Γ c ρ I' L' Q) : WX Γ c ρ I L Q := fun a w ha hw => by
 obtain ⟨I', h1, h2, h3⟩ := (hw.perm (pull k L _ hL)).freezeAt
 rw [hE.is] at h2
 exact next I' h1 h3 a w ha h2
theorem WL.boxSl {g e sz n : Nat} {xs : List Value} {L' : List HP} (k : Nat) (hL : L[k]? = some (Sl.box g e xs)) (hn : xs.length = n * sz) (hm : n ≤ maxLen) [h2 : SetL L k (sl e sz (.slice (some ⟨g, 0, none⟩) n n) n xs) L'] (next : WL Γ ops rest ρ I L' Q) : WL Γ ops rest ρ I L Q := fun a w ha hw =>
 next a w ha (h2.is ▸ ((hw.perm (pull k L _ hL)).box_sl hn hm).perm (push_back k L _ _ hL))
end
end Go.Sl

namespace Go.Sl
open Go.RowKit
theorem At.zero {I : Mem} {b off : Nat} {cs : List Value} {v : Value} (h : At I b off cs) (hv : cs[0]? = some v) : At I b off [v] := At.one (k := 0) h hv
def EqP (p : Prop) : Value → Prop := fun v => ∃ b, v = .bool b ∧ (b = true ↔ p)
theorem EqP.t {p : Prop} (h : p) : EqP p (.bool true) := ⟨true, rfl, fun _ => h, fun _ => rfl⟩
theorem EqP.f {p : Prop} (h : ¬ p) : EqP p (.bool false) := ⟨false, rfl, fun h => (by cases h), fun k => absurd k h⟩
theorem cellsEq_iff : ∀ {ks : List CK} {xs ys : List Value}, wfC ks xs = true → wfC ks ys = true → (cellsEq xs ys = true ↔ xs = ys)
 | [], [], [], _, _ => by simp [cellsEq]
 | k :: ks, v :: xs, u :: ys, h, g => by
  simp only [wfC, Bool.and_eq_true] at h g
  have ih := cellsEq_iff h.2 g.2
  simp only [cellsEq, Bool.and_eq_true, ih, List.cons.injEq]
  have h1 := h.1; have g1 := g.1
  cases k <;> cases v <;> simp [CK.ok] at h1 <;> cases u <;> simp [CK.ok] at g1 <;> simp_all [cellEq]
 | [], _ :: _, _, h, _ => by simp [wfC] at h
 | [], [], _ :: _, _, h => by simp [wfC] at h
 | _ :: _, [], _, h, _ => by simp [wfC] at h
 | _ :: _, _ :: _, [], _, h => by simp [wfC] at h
theorem all_snoc {α : Type} {P : α → Prop} {l : List α} {k : Nat} (h : ∀ x ∈ l.take k, P x) (hk : k < l.length) (hx : P l[k]) : ∀ x ∈ l.take (k + 1), P x := by
 rw [List.take_succ_eq_append_getElem hk]
 intro x hm
 rcases List.mem_append.1 hm with hm | hm
 ·exact h x hm
 ·rw [List.mem_singleton.1 hm]; exact hx
section
variable {Γ : Cx} {ops : Array Oper} {rest : List Oper} {ρ : Nat → Value} {I : Mem} {L : List HP} {Q : Post} {ty : TypeId} {ps : String} {af : Array Edge} {d t t' : Nat} {x y : Operand}
section
variable {k : IntKind} {m n : Int} (hx : ev ρ x = .int k m) (hy : ev ρ y = .int k n) (hd : Nat.blt d Γ.n = true)
include hx hy hd
theorem WL.eqI (ht : m = n → WL Γ ops rest (upd ρ d (.bool true)) I L Q) (hf : m ≠ n → WL Γ ops rest (upd ρ d (.bool false)) I L Q) :
  WL Γ ops ({ dst := some d, op := .binOp .eql t x y t', type := ty, pos := ps, after := af, guard := none } :: rest) ρ I L Q := by
 by_cases h : m = n
 ·exact WL.val (Val.eql hx hy (beq_iff_eq.2 h)) hd (ht h)
 ·exact WL.val (Val.eql hx hy (beq_eq_false_iff_ne.2 h)) hd (hf h)
theorem WL.ltI (ht : m < n → WL Γ ops rest (upd ρ d (.bool true)) I L Q) (hf : n ≤ m → WL Γ ops rest (upd ρ d (.bool false)) I L Q) :
  WL Γ ops ({ dst := some d, op := .binOp .lss t x y t', type := ty, pos := ps, after := af, guard := none } :: rest) ρ I L Q := by
 by_cases h : m < n
 ·exact WL.val (Val.lss hx hy (decide_eq_true h)) hd (ht h)
 ·exact WL.val (Val.lss hx hy (decide_eq_false h)) hd (hf (by omega))
theorem WL.leI (ht : m ≤ n → WL Γ ops rest (upd ρ d (.bool true)) I L Q) (hf : n < m → WL Γ ops rest (upd ρ d (.bool false)) I L Q) :
  WL Γ ops ({ dst := some d, op := .binOp .leq t x y t', type := ty, pos := ps, after := af, guard := none } :: rest) ρ I L Q := by
 by_cases h : m ≤ n
 ·exact WL.val (Val.leq hx hy (decide_eq_true h)) hd (ht h)
 ·exact WL.val (Val.leq hx hy (decide_eq_false h)) hd (hf (by omega))
theorem WL.geI (ht : n ≤ m → WL Γ ops rest (upd ρ d (.bool true)) I L Q) (hf : m < n → WL Γ ops rest (upd ρ d (.bool false)) I L Q) :
  WL Γ ops ({ dst := some d, op := .binOp .geq t x y t', type := ty, pos := ps, after := af, guard := none } :: rest) ρ I L Q := by
 by_cases h : n ≤ m
 ·exact WL.val (Val.geq hx hy (decide_eq_true h)) hd (ht h)
 ·exact WL.val (Val.geq hx hy (decide_eq_false h)) hd (hf (by omega))
end
section
variable {ks : List CK} {xs ys : List Value} [hk : EqK Γ.P t ks] (hx : ev ρ x = .agg xs.toArray) (hy : ev ρ y = .agg ys.toArray) (wx : wfC ks xs = true) (wy : wfC ks ys = true) (hd : Nat.blt d Γ.n = true)
include hk hx hy wx wy hd
theorem WL.eqS (ht : xs = ys → WL Γ ops rest (upd ρ d (.bool true)) I L Q) (hf : xs ≠ ys → WL Γ ops rest (upd ρ d (.bool false)) I L Q) :
  WL Γ ops ({ dst := some d, op := .binOp .eql t x y t', type := ty, pos := ps, after := af, guard := none } :: rest) ρ I L Q := by
 refine WL.val (Val.eqlS hx hy wx wy) hd ?_
 have hi := cellsEq_iff wx wy
 cases h : cellsEq xs ys
 ·exact hf fun e => by rw [hi.2 e] at h; cases h
 ·exact ht (hi.1 h)
theorem WL.neS (ht : xs ≠ ys → WL Γ ops rest (upd ρ d (.bool true)) I L Q) (hf : xs = ys → WL Γ ops rest (upd ρ d (.bool false)) I L Q) :
  WL Γ ops ({ dst := some d, op := .binOp .neq t x y t', type := ty, pos := ps, after := af, guard := none } :: rest) ρ I L Q := by
 refine WL.val (Val.neqS hx hy wx wy) hd ?_
 have hi := cellsEq_iff wx wy
 cases h : cellsEq xs ys
 ·exact ht fun e => by rw [hi.2 e] at h; cases h
 ·exact hf (hi.1 h)
end
theorem WL.eqB {a b : Bool} [hk : BoolK Γ.P t] (hx : ev ρ x = .bool a) (hy : ev ρ y = .bool b) (hd : Nat.blt d Γ.n = true) (ht : a = b → WL Γ ops rest (upd ρ d (.bool true)) I L Q) (hf : a ≠ b → WL Γ ops rest (upd ρ d (.bool false)) I L Q) :
  WL Γ ops ({ dst := some d, op := .binOp .eql t x y t', type := ty, pos := ps, after := af, guard := none } :: rest) ρ I L Q := by
 refine WL.val (Val.eqlB hx hy) hd ?_
 cases h : (a == b)
 ·exact hf (by simpa using h)
 ·exact ht (by simpa using h)
theorem Val.eqlD {ks : List CK} {xs ys : List Value} [hk : EqK Γ.P t ks] (hx : ev ρ x = .agg xs.toArray) (hy : ev ρ y = .agg ys.toArray) (wx : wfC ks xs = true) (wy : wfC ks ys = true) (h : xs ≠ ys) : Val Γ ρ I L (.binOp .eql t x y t') ty (.bool false) := by
 have := Val.eqlS (Γ := Γ) (t := t) (I := I) (L := L) (ty := ty) (t' := t') hx hy wx wy
 rwa [show cellsEq xs ys = false by cases e : cellsEq xs ys with | false => rfl | true => exact absurd ((cellsEq_iff wx wy).1 e) h] at this
theorem Val.neqD {ks : List CK} {xs ys : List Value} [hk : EqK Γ.P t ks] (hx : ev ρ x = .agg xs.toArray) (hy : ev ρ y = .agg ys.toArray) (wx : wfC ks xs = true) (wy : wfC ks ys = true) (h : xs ≠ ys) : Val Γ ρ I L (.binOp .neq t x y t') ty (.bool true) := by
 have := Val.neqS (Γ := Γ) (t := t) (I := I) (L := L) (ty := ty) (t' := t') hx hy wx wy
 rwa [show cellsEq xs ys = false by cases e : cellsEq xs ys with | false => rfl | true => exact absurd ((cellsEq_iff wx wy).1 e) h] at this
theorem Val.build0 {zs : List Value} {pl : List (Nat × Nat)} [hz : ZeroK Γ.P t zs] [hp : PlK Γ.P t pl] : Val Γ ρ I L (.build t #[]) ty (.agg zs.toArray) := Val.build (qs := []) rfl
theorem WL.boxA {x : Operand} {cs : List Value} (hx : ev ρ x = .agg cs.toArray) (hd : Nat.blt d Γ.n = true)
  (next : ∀ g, WL Γ ops rest (upd ρ d (.pointer (some ⟨g, 0, none⟩))) I (L ++ [Sl.box g t cs]) Q) : WL Γ ops ({ dst := some d, op := .box t x, type := ty, pos := ps, after := af, guard := none } :: rest) ρ I L Q :=
 WL.box (by rw [hx]; rfl) hd next
theorem Val.indexA {l n : Nat} {cs vs : List Value} {k : IntKind} {j : Int} [hk : ArK Γ.P t l true n] (hx : ev ρ x = .agg cs.toArray) (hi : ev ρ y = .int k j) (h0 : 0 ≤ j) (h1 : j < l) (hv : (cs.drop (j.toNat * n)).take n = vs) :
  Val Γ ρ I L (.index t x y) ty (.agg vs.toArray) := fun w hw => by
 obtain ⟨e, hu, he⟩ := ArK.und hk.is
 have hp := run_partA he (cs := cs.toArray) (off := j.toNat * n) w
 have hz : (cs.toArray.extract (j.toNat * n) (j.toNat * n + n)) = vs.toArray := by
  rw [← hv]; apply Array.ext'; simp
 rw [hz] at hp
 simp only [execOp, hx, hi, Instr.index, asIntOf, pure_bind, Sem.run_bind, run_underlying hu, Result.andThen_ok]
 simp only [h0, h1, and_self, if_true, Sem.run_bind, TyK.size he, Result.andThen_ok, hp]
 rfl
theorem Val.loadSS {b off : Nat} {cs : List Value} {v : Value} [hk : TyK Γ.P t false 1] (hx : ev ρ x = .pointer (some ⟨b, off, none⟩)) (h : At I b 0 cs) (hv : cs[off]? = some v) : Val Γ ρ I L (.load t x) ty v := by
 refine Val.loadS hx (Rd.imm ?_)
 have h2 := At.one h hv
 rwa [Nat.zero_add] at h2
theorem WL.ap1 {a : Oper} {A B : List Oper} (h : WL Γ ops (a :: A.append B) ρ I L Q) : WL Γ ops ((a :: A).append B) ρ I L Q := h
theorem WL.ap0 {B : List Oper} (h : WL Γ ops B ρ I L Q) : WL Γ ops (([] : List Oper).append B) ρ I L Q := h
theorem WL.callE {f : FuncId} {x : Operand} {args : List Operand} {ats : Array TypeId} {fs cp vs : List Value} {p : Prop} [hf : FnK Γ.P f]
  (hx : ev ρ x = .func (.func f) fs.toArray cp.toArray) (hv : fs ++ args.map (ev ρ) ++ cp = vs) (hc : Ctr Γ.P f vs I [] (Still I (EqP p))) (hd : Nat.blt d Γ.n = true)
  (ht : p → WL Γ ops rest (upd ρ d (.bool true)) I L Q) (hf : ¬ p → WL Γ ops rest (upd ρ d (.bool false)) I L Q) :
  WL Γ ops ({ dst := some d, op := .call { callee := .value x, args := args.toArray, argTypes := ats }, type := ty, pos := ps, after := af, guard := none } :: rest) ρ I L Q :=
 WL.callS hx hv hc hd fun v ⟨b, hb, hp⟩ => by
  subst hb
  cases b
  ·exact hf fun h => by have := hp.2 h; cases this
  ·exact ht (hp.1 rfl)
theorem WL.appAt {e sz by_ n m : Nat} {s x : Operand} {v u : Value} {xs ys zs : List Value} (k : Nat) [hk : SlK Γ.P t e sz] [hz : ZeroK Γ.P e zs] [hb : BytK Γ.P e by_]
  (hs : ev ρ s = v) (hL : L[k]? = some (sl e sz v n xs)) (hx : ev ρ x = u) (hu : SlAt I u m ys) (hy : ys.length = m * sz) (h1 : ys.all Value.oneCell' = true) (hzs : zs.length = sz) (hsz : 0 < sz)
  (hbound : (n + m) * by_ ≤ 140737488355328) (hmax : n + m ≤ maxLen) (hd : Nat.blt d Γ.n = true)
  (next : ∀ aa cap, WL Γ ops rest (upd ρ d (.slice aa (n + m) cap)) I (L.set k (sl e sz (.slice aa (n + m) cap) (n + m) (xs ++ ys))) Q) :
  WL Γ ops ({ dst := some d, op := .call { callee := .builtin .append, args := #[s, x], argTypes := #[t, t] }, type := ty, pos := ps, after := af, guard := none } :: rest) ρ I L Q := by
 obtain ⟨a, cap, rfl, hc, hA⟩ := hu
 rcases Nat.eq_zero_or_pos m with h0 | h0
 ·subst h0
  have hys : ys = [] := List.eq_nil_of_length_eq_zero (by simpa using hy)
  subst hys
  have hset : L.set k (sl e sz v n xs) = L := by
   apply List.ext_getElem?
   intro j
   rw [List.getElem?_set]
   split
   ·rename_i hj
    subst hj
    split
    ·exact hL.symm
    ·rename_i hlt
     rw [List.getElem?_eq_none (by omega)] at hL; cases hL
   ·rfl
  intro ac w ha hw
  have hv : ∃ aa cc, v = .slice aa n cc := by
   obtain ⟨m, hm, h1, h2⟩ := (hw.perm (pull k L _ hL)).head
   rcases h2 with ⟨rfl, rfl⟩ | ⟨g, cap, cur, hv, _⟩
   ·exact ⟨_, _, rfl⟩
   ·exact ⟨_, _, hv⟩
  obtain ⟨aa, cc, rfl⟩ := hv
  refine WL.append0 k hs hL hx hd ?_ ac w ha hw
  have h2 := next aa cc
  simp only [Nat.add_zero, List.append_nil, hset] at h2
  exact h2
 ·rcases hA with ⟨h, _⟩ | ⟨b, off, rfl, hA⟩
  ·omega
  ·exact WL.append k hs hL hx (Rd.imm hA) hy h1 hzs hsz h0 hbound hmax hd fun g cap => next _ _
end
section
variable {Γ : Cx} {ops : Array Oper} {rest : List Oper} {ρ : Nat → Value} {I : Mem} {L : List HP} {Q : Post} {ty : TypeId} {ps : String} {af : Array Edge}
end
end Go.Sl

namespace Go.Sl
section
variable {Γ : Cx} {ops : Array Oper} {rest : List Oper} {ρ : Nat → Value} {I I0 : Mem} {L L0 L' : List HP} {Q : Post} {ty t t' : TypeId} {ps : String} {af : Array Edge} {d : Nat} {x y : Operand} {k : IntKind} {m n : Int} {a : Option Addr} {b z fuel : Nat} {c : Operand} {y' z' : Code}
abbrev jA := @WX.thenC
abbrev jB := @WC.seq
abbrev jC := @WL.nil
abbrev jD := @WC.region
abbrev jR := @WC.ret
abbrev jU := @WX.thenRet
abbrev jV := @WC.skip
abbrev jW := @WL.nApp
abbrev jr1 := @RunRes.r1
abbrev jr2 := @RunRes.r2
abbrev jr3 := @RunRes.r3
abbrev jtI := @ResIs.tmpI
abbrev jtB := @ResIs.tmpB
abbrev jtS := @ResIs.tmpS
abbrev jcL := @ResIs.cellL
theorem jS {id : Nat} {l : List Oper} {y : Code} (h : WL Γ l.toArray l ρ I L (Exit.then (y.wp Γ.P Q) Q)) : WC Γ (.seq (.region id l.toArray false) y) ρ I L Q := WC.seq (WC.region h)
theorem jM {y : Code} (h : WC Γ y ρ I L Q) : WL Γ ops [] ρ I L (Exit.then (y.wp Γ.P Q) Q) := WL.nil (WX.thenC h)
theorem jN {id : Nat} {l : List Oper} {y : Code} (h : WL Γ l.toArray l ρ I L (Exit.then (y.wp Γ.P Q) Q)) : WL Γ ops [] ρ I L (Exit.then ((Code.seq (.region id l.toArray false) y).wp Γ.P Q) Q) := WL.nil (WX.thenC (WC.seq (WC.region h)))
theorem jK {id : Nat} {l : List Oper} {y : Code} (h : WL Γ l.toArray l ρ I L (Exit.then (y.wp Γ.P Q) Q)) : WX Γ .normal ρ I L (Exit.then ((Code.seq (.region id l.toArray false) y).wp Γ.P Q) Q) := WX.thenC (WC.seq (WC.region h))
theorem jE {y z : Code} (h : WC Γ z ρ I L Q) (hc : ev ρ c = .bool false := by rfl) : WC Γ (.cond c y z) ρ I L Q := WC.condF hc h
theorem jF {y z : Code} (h : WC Γ y ρ I L Q) (hc : ev ρ c = .bool true := by rfl) : WC Γ (.cond c y z) ρ I L Q := WC.condT hc h
theorem jG {d : Option Nat} {op : Op} {j t : Nat} {b : Bool} (next : WL Γ ops ({ dst := d, op := op, type := ty, pos := ps, after := af, guard := none } :: rest) ρ I L Q) (hj : (ops[j]?).bind (·.dst) = some t := by exact rfl) (hv : ρ t = .bool b := by exact rfl) :
  WL Γ ops ({ dst := d, op := op, type := ty, pos := ps, after := af, guard := some (j, b) } :: rest) ρ I L Q := WL.gT hj hv next
theorem jH {op : Op} {j t : Nat} {b c : Bool} (next : WL Γ ops rest (upd ρ d undef) I L Q) (hj : (ops[j]?).bind (·.dst) = some t := by exact rfl) (hv : ρ t = .bool c := by exact rfl) (hbc : (c == b) = false := by exact rfl) (hd : Nat.blt d Γ.n = true := by exact rfl) :
  WL Γ ops ({ dst := some d, op := op, type := ty, pos := ps, after := af, guard := some (j, b) } :: rest) ρ I L Q := WL.gF hj hv hbc hd next
theorem jm {op : Op} {v : Value} (h : Val Γ ρ I L op ty v) (next : WL Γ ops rest (upd ρ d v) I L Q) (hd : Nat.blt d Γ.n = true := by exact rfl) : WL Γ ops ({ dst := some d, op := op, type := ty, pos := ps, after := af, guard := none } :: rest) ρ I L Q := WL.val h hd next
theorem ja (h : ev ρ x = .int k m) (next : WL Γ ops rest (upd ρ d (.int k m)) I L Q) (hd : Nat.blt d Γ.n = true := by exact rfl) : WL Γ ops ({ dst := some d, op := .move x, type := ty, pos := ps, after := af, guard := none } :: rest) ρ I L Q := WL.val (Val.moveI h) hd next
theorem jb {q : Bool} (h : ev ρ x = .bool q) (next : WL Γ ops rest (upd ρ d (.bool q)) I L Q) (hd : Nat.blt d Γ.n = true := by exact rfl) : WL Γ ops ({ dst := some d, op := .move x, type := ty, pos := ps, after := af, guard := none } :: rest) ρ I L Q := WL.val (Val.moveB h) hd next
theorem jc {p q : Nat} (h : ev ρ x = .slice a p q) (next : WL Γ ops rest (upd ρ d (.slice a p q)) I L Q) (hd : Nat.blt d Γ.n = true := by exact rfl) : WL Γ ops ({ dst := some d, op := .move x, type := ty, pos := ps, after := af, guard := none } :: rest) ρ I L Q := WL.val (Val.moveS h) hd next
theorem jd (h : ev ρ x = .pointer a) (next : WL Γ ops rest (upd ρ d (.pointer a)) I L Q) (hd : Nat.blt d Γ.n = true := by exact rfl) : WL Γ ops ({ dst := some d, op := .move x, type := ty, pos := ps, after := af, guard := none } :: rest) ρ I L Q := WL.val (Val.moveP h) hd next
theorem je {q : Array Value} (h : ev ρ x = .tuple q) (next : WL Γ ops rest (upd ρ d (.tuple q)) I L Q) (hd : Nat.blt d Γ.n = true := by exact rfl) : WL Γ ops ({ dst := some d, op := .move x, type := ty, pos := ps, after := af, guard := none } :: rest) ρ I L Q := WL.val (Val.moveT h) hd next
theorem jf (h : ev ρ x = .int k m) (next : WL Γ ops rest (upd ρ d (.int k m)) I L Q) (hd : Nat.blt d Γ.n = true := by exact rfl) : WL Γ ops ({ dst := some d, op := .assign x, type := ty, pos := ps, after := af, guard := none } :: rest) ρ I L Q := WL.val (Val.assignI h) hd next
theorem jg {q : Bool} (h : ev ρ x = .bool q) (next : WL Γ ops rest (upd ρ d (.bool q)) I L Q) (hd : Nat.blt d Γ.n = true := by exact rfl) : WL Γ ops ({ dst := some d, op := .assign x, type := ty, pos := ps, after := af, guard := none } :: rest) ρ I L Q := WL.val (Val.assignB h) hd next
theorem jh {p q : Nat} (h : ev ρ x = .slice a p q) (next : WL Γ ops rest (upd ρ d (.slice a p q)) I L Q) (hd : Nat.blt d Γ.n = true := by exact rfl) : WL Γ ops ({ dst := some d, op := .assign x, type := ty, pos := ps, after := af, guard := none } :: rest) ρ I L Q := WL.val (Val.assignS h) hd next
theorem ji (h : ev ρ x = .pointer a) (next : WL Γ ops rest (upd ρ d (.pointer a)) I L Q) (hd : Nat.blt d Γ.n = true := by exact rfl) : WL Γ ops ({ dst := some d, op := .assign x, type := ty, pos := ps, after := af, guard := none } :: rest) ρ I L Q := WL.val (Val.assignP h) hd next
theorem jk {q : Bool} (h : ev ρ c = .bool q) (next : WL Γ ops rest (upd ρ d (bif q then ev ρ x else ev ρ y)) I L Q) (hd : Nat.blt d Γ.n = true := by exact rfl) : WL Γ ops ({ dst := some d, op := .pick c x y, type := ty, pos := ps, after := af, guard := none } :: rest) ρ I L Q := WL.val (Val.pick h) hd next
theorem jl {q : Bool} (h : ev ρ x = .bool q) (next : WL Γ ops rest (upd ρ d (.bool (!q))) I L Q) (hd : Nat.blt d Γ.n = true := by exact rfl) : WL Γ ops ({ dst := some d, op := .unOp .not t x, type := ty, pos := ps, after := af, guard := none } :: rest) ρ I L Q := WL.val (Val.not h) hd next
abbrev jn := @Val.fldAddr
abbrev jo := @Val.len
abbrev jr := @Val.nilCheckP
abbrev jt := @Val.ldO
abbrev jq := @Val.extractI
theorem jp {b off bt : Nat} {cs : List Value} {v : Value} (k : Nat) [hk : TyK Γ.P t false 1] (hx : ev ρ x = .pointer (some ⟨b, off, none⟩)) (hL : L[k]? = some (Sl.box b bt cs)) (hv : cs[off]? = some v) : Val Γ ρ I L (.load t x) ty v := Val.loadS hx (Rd.own1 k hL hv)
theorem jZ {t e b off len cap : Nat} {n : Nat} {x i : Operand} {k : IntKind} {j : Int} [hk : SlK Γ.P t e n] (hx : ev ρ x = .slice (some ⟨b, off, none⟩) len cap) (hi : ev ρ i = .int k j) (h0 : 0 ≤ j := by omega) (h1 : j < len := by omega) : Val Γ ρ I L (.indexAddr t x i) ty (.pointer (some ⟨b, off + j.toNat * n, none⟩)) := Val.indexAddr hx hi h0 h1
theorem jv (hx : ev ρ x = .int k m) (hy : ev ρ y = .int k n) (next : WL Γ ops rest (upd ρ d (.bool false)) I L Q) (h : m ≠ n := by omega) (hd : Nat.blt d Γ.n = true := by exact rfl) : WL Γ ops ({ dst := some d, op := .binOp .eql t x y t', type := ty, pos := ps, after := af, guard := none } :: rest) ρ I L Q := WL.val (Val.eql hx hy (beq_eq_false_iff_ne.2 h)) hd next
theorem jw (hx : ev ρ x = .int k m) (hy : ev ρ y = .int k n) (next : WL Γ ops rest (upd ρ d (.bool true)) I L Q) (h : m = n := by omega) (hd : Nat.blt d Γ.n = true := by exact rfl) : WL Γ ops ({ dst := some d, op := .binOp .eql t x y t', type := ty, pos := ps, after := af, guard := none } :: rest) ρ I L Q := WL.val (Val.eql hx hy (beq_iff_eq.2 h)) hd next
theorem jz (hx : ev ρ x = .int k m) (hy : ev ρ y = .int k n) (next : WL Γ ops rest (upd ρ d (.bool false)) I L Q) (h : m = n := by omega) (hd : Nat.blt d Γ.n = true := by exact rfl) : WL Γ ops ({ dst := some d, op := .binOp .neq t x y t', type := ty, pos := ps, after := af, guard := none } :: rest) ρ I L Q := WL.val (Val.neq hx hy (bne_eq_false_iff_eq.2 h)) hd next
theorem jJ (hx : ev ρ x = .int k m) (hy : ev ρ y = .int k n) (next : WL Γ ops rest (upd ρ d (.bool true)) I L Q) (h : m ≠ n := by omega) (hd : Nat.blt d Γ.n = true := by exact rfl) : WL Γ ops ({ dst := some d, op := .binOp .neq t x y t', type := ty, pos := ps, after := af, guard := none } :: rest) ρ I L Q := WL.val (Val.neq hx hy (bne_iff_ne.2 h)) hd next
theorem jx (hx : ev ρ x = .int k m) (hy : ev ρ y = .int k n) (next : WL Γ ops rest (upd ρ d (.bool false)) I L Q) (h : ¬ m < n := by omega) (hd : Nat.blt d Γ.n = true := by exact rfl) : WL Γ ops ({ dst := some d, op := .binOp .lss t x y t', type := ty, pos := ps, after := af, guard := none } :: rest) ρ I L Q := WL.val (Val.lss hx hy (decide_eq_false h)) hd next
theorem jy (hx : ev ρ x = .int k m) (hy : ev ρ y = .int k n) (next : WL Γ ops rest (upd ρ d (.bool true)) I L Q) (h : m < n := by omega) (hd : Nat.blt d Γ.n = true := by exact rfl) : WL Γ ops ({ dst := some d, op := .binOp .lss t x y t', type := ty, pos := ps, after := af, guard := none } :: rest) ρ I L Q := WL.val (Val.lss hx hy (decide_eq_true h)) hd next
theorem jL (hx : ev ρ x = .int k m) (hy : ev ρ y = .int k n) (next : WL Γ ops rest (upd ρ d (.bool false)) I L Q) (h : ¬ n < m := by omega) (hd : Nat.blt d Γ.n = true := by exact rfl) : WL Γ ops ({ dst := some d, op := .binOp .gtr t x y t', type := ty, pos := ps, after := af, guard := none } :: rest) ρ I L Q := WL.val (Val.gtr hx hy (decide_eq_false h)) hd next
theorem jO (hx : ev ρ x = .int k m) (hy : ev ρ y = .int k n) (next : WL Γ ops rest (upd ρ d (.bool true)) I L Q) (h : n < m := by omega) (hd : Nat.blt d Γ.n = true := by exact rfl) : WL Γ ops ({ dst := some d, op := .binOp .gtr t x y t', type := ty, pos := ps, after := af, guard := none } :: rest) ρ I L Q := WL.val (Val.gtr hx hy (decide_eq_true h)) hd next
theorem jX (hx : ev ρ x = .int .i64 m) (hy : ev ρ y = .int .i64 n) (next : WL Γ ops rest (upd ρ d (.int .i64 (m + n))) I L Q) (h1 : -9223372036854775808 ≤ m + n := by omega) (h2 : m + n ≤ 9223372036854775807 := by omega) (hd : Nat.blt d Γ.n = true := by exact rfl) : WL Γ ops ({ dst := some d, op := .binOp .add t x y t', type := ty, pos := ps, after := af, guard := none } :: rest) ρ I L Q := WL.val (Val.add hx hy (wrap_i64 h1 h2)) hd next
def GOk (ops : Array Oper) (ρ : Nat → Value) : Option (Nat × Bool) → Prop
 | none => True
 | some (j, b) => ∃ t, (ops[j]?).bind (·.dst) = some t ∧ ρ t = .bool b
theorem takeG [hq : PF Q] {op : Op} {v : Value} {g : Option (Nat × Bool)} {listed : Array Bool} {i : Nat} (hi : ops[i]? = some { dst := some d, op := op, type := ty, pos := ps, after := af, guard := g }) (hS : ∀ w, Sat Γ.E w I L → Sat Γ.E w I0 L0) (hv : Val Γ ρ I0 L0 op ty v)
  (next : WA Γ ops Q z I0 L0 fuel (listed.setIfInBounds i true) (upd ρ d v) I L) (hs : canTake ops listed z i = true) (hw : GOk ops ρ g) (hd : Nat.blt d Γ.n = true) : WA Γ ops Q z I0 L0 (fuel + 1) listed ρ I L := by
 cases g with
 | none => exact WA.take i hi hs rfl hS hv hd next
 | some p =>
  obtain ⟨j, b⟩ := p
  obtain ⟨t, hj, hb⟩ := hw
  exact WA.takeGT i hi hs rfl hS hj hb hv hd next
def WB (Γ : Cx) (ops : Array Oper) (Q : Post) (z : Nat) (I0 : Mem) (L0 : List HP) (fuel : Nat) (listed : Array Bool) (ρ : Nat → Value) (I : Mem) (L : List HP) : Prop := (∀ w, Sat Γ.E w I L → Sat Γ.E w I0 L0) → WA Γ ops Q z I0 L0 fuel listed ρ I L
theorem jT [hq : PF Q] {op : Op} {v : Value} {g : Option (Nat × Bool)} {listed : Array Bool} (i : Nat) (hi : ops[i]? = some { dst := some d, op := op, type := ty, pos := ps, after := af, guard := g }) (hv : Val Γ ρ I0 L0 op ty v)
  (next : WB Γ ops Q z I0 L0 fuel (listed.setIfInBounds i true) (upd ρ d v) I L) (hs : canTake ops listed z i = true := by kernel_rfl) (hw : GOk ops ρ g := by first | exact trivial | exact ⟨_, rfl, rfl⟩) (hd : Nat.blt d Γ.n = true := by exact rfl) : WB Γ ops Q z I0 L0 (fuel + 1) listed ρ I L :=
 fun hS => takeG hi hS hv (next hS) hs hw hd
theorem jI [hq : PF Q] {op : Op} {j t : Nat} {b c : Bool} {listed : Array Bool} (i : Nat) (hi : ops[i]? = some { dst := some d, op := op, type := ty, pos := ps, after := af, guard := some (j, b) })
  (next : WB Γ ops Q z I0 L0 fuel (listed.setIfInBounds i true) (upd ρ d undef) I L) (hj : (ops[j]?).bind (·.dst) = some t := by exact rfl) (hb : ρ t = .bool c := by exact rfl) (hcb : (c == b) = false := by exact rfl) (hs : canTake ops listed z i = true := by kernel_rfl) (hd : Nat.blt d Γ.n = true := by exact rfl) : WB Γ ops Q z I0 L0 (fuel + 1) listed ρ I L :=
 fun hS => WA.takeGF i hi hs rfl hS hj hb hcb hd (next hS)
theorem jY [hq : PF Q] {op : Op} {j t : Nat} {b : Bool} {listed : Array Bool} (i : Nat) (hi : ops[i]? = some { dst := some d, op := op, type := ty, pos := ps, after := af, guard := some (j, b) })
  (next : WB Γ ops Q z I0 L0 fuel (listed.setIfInBounds i true) (upd ρ d undef) I L) (hj : (ops[j]?).bind (·.dst) = some t := by exact rfl) (hb : ρ t = undef := by exact rfl) (hs : canTake ops listed z i = true := by kernel_rfl) (hd : Nat.blt d Γ.n = true := by exact rfl) : WB Γ ops Q z I0 L0 (fuel + 1) listed ρ I L :=
 fun hS => WA.takeGU i hi hs rfl hS hj hb hd (next hS)
theorem j5 {dd : Option Nat} {op : Op} {g : Option (Nat × Bool)} {listed : Array Bool} (i : Nat) (hi : ops[i]? = some { dst := dd, op := op, type := ty, pos := ps, after := af, guard := g })
  (h : WL Γ ops [{ dst := dd, op := op, type := ty, pos := ps, after := af, guard := g }] ρ I L (Exit.then (WAK Γ ops Q z i I0 L0 fuel (listed.setIfInBounds i true)) Q)) (hr : Region.ready .any ops listed = [i] := by kernel_rfl) : WB Γ ops Q z I0 L0 (fuel + 1) listed ρ I L := fun _ => WA.eff1 hr hi rfl h
theorem j6 {listed : Array Bool} (h : WX Γ .normal ρ I L Q) (hr : Region.ready .any ops listed = [] := by kernel_rfl) : WB Γ ops Q z I0 L0 fuel listed ρ I L := fun _ => WA.done hr h
theorem j7 {i : Nat} {l' : Array Bool} {Lr : List HP} (ks : List Nat) (hp : picks ks L = some (L0, Lr)) (h : WB Γ ops Q z I L0 fuel l' ρ I L) : WX Γ .normal ρ I L (Exit.then (WAK Γ ops Q z i I L0 fuel l') Q) := WK.anyStep (fun w h => h.sub ks hp) (h fun w h => h.sub ks hp)
theorem j9 {i : Nat} {l' : Array Bool} {Lr : List HP} (ks : List Nat) (hI : I0.le I) (hp : picks ks L = some (L0, Lr)) (h : WB Γ ops Q z I0 L0 fuel l' ρ I L) : WX Γ .normal ρ I L (Exit.then (WAK Γ ops Q z i I0 L0 fuel l') Q) := WK.anyStep (fun w h => (h.sub ks hp).less hI) (h fun w h => (h.sub ks hp).less hI)
theorem j8 {id : Nat} {Lr : List HP} (z : Nat) (ks : List Nat) (hp : picks ks L = some (L0, Lr)) (h : WB Γ ops Q z I L0 ops.size (Array.replicate ops.size false) ρ I L) (hm : Γ.P.follows .mixedOrders = true := by kernel_rfl) : WC Γ (.region id ops true) ρ I L Q := WC.drawK z I ks hp hm rfl rfl (h fun w h => h.sub ks hp)
theorem ju3 {c : Code} {t1 t2 t3 : Nat} {v1 v2 v3 : Value} (h1 : ρ t1 = v1) (h2 : ρ t2 = v2) (h3 : ρ t3 = v3) (next : WC Γ c (upd (upd (upd ρ t1 v1) t2 v2) t3 v3) I L Q) : WC Γ c ρ I L Q := by rwa [upd_self h1, upd_self h2, upd_self h3] at next
theorem ju4 {c : Code} {t1 t2 t3 t4 : Nat} {v1 v2 v3 v4 : Value} (h1 : ρ t1 = v1) (h2 : ρ t2 = v2) (h3 : ρ t3 = v3) (h4 : ρ t4 = v4) (next : WC Γ c (upd (upd (upd (upd ρ t1 v1) t2 v2) t3 v3) t4 v4) I L Q) : WC Γ c ρ I L Q := by rwa [upd_self h1, upd_self h2, upd_self h3, upd_self h4] at next
theorem ju5 {c : Code} {t1 t2 t3 t4 t5 : Nat} {v1 v2 v3 v4 v5 : Value} (h1 : ρ t1 = v1) (h2 : ρ t2 = v2) (h3 : ρ t3 = v3) (h4 : ρ t4 = v4) (h5 : ρ t5 = v5) (next : WC Γ c (upd (upd (upd (upd (upd ρ t1 v1) t2 v2) t3 v3) t4 v4) t5 v5) I L Q) : WC Γ c ρ I L Q := by rwa [upd_self h1, upd_self h2, upd_self h3, upd_self h4, upd_self h5] at next
theorem ju6 {c : Code} {t1 t2 t3 t4 t5 t6 : Nat} {v1 v2 v3 v4 v5 v6 : Value} (h1 : ρ t1 = v1) (h2 : ρ t2 = v2) (h3 : ρ t3 = v3) (h4 : ρ t4 = v4) (h5 : ρ t5 = v5) (h6 : ρ t6 = v6) (next : WC Γ c (upd (upd (upd (upd (upd (upd ρ t1 v1) t2 v2) t3 v3) t4 v4) t5 v5) t6 v6) I L Q) : WC Γ c ρ I L Q := by rwa [upd_self h1, upd_self h2, upd_self h3, upd_self h4, upd_self h5, upd_self h6] at next
theorem ju7 {c : Code} {t1 t2 t3 t4 t5 t6 t7 : Nat} {v1 v2 v3 v4 v5 v6 v7 : Value} (h1 : ρ t1 = v1) (h2 : ρ t2 = v2) (h3 : ρ t3 = v3) (h4 : ρ t4 = v4) (h5 : ρ t5 = v5) (h6 : ρ t6 = v6) (h7 : ρ t7 = v7) (next : WC Γ c (upd (upd (upd (upd (upd (upd (upd ρ t1 v1) t2 v2) t3 v3) t4 v4) t5 v5) t6 v6) t7 v7) I L Q) : WC Γ c ρ I L Q := by rwa [upd_self h1, upd_self h2, upd_self h3, upd_self h4, upd_self h5, upd_self h6, upd_self h7] at next
theorem ju8 {c : Code} {t1 t2 t3 t4 t5 t6 t7 t8 : Nat} {v1 v2 v3 v4 v5 v6 v7 v8 : Value} (h1 : ρ t1 = v1) (h2 : ρ t2 = v2) (h3 : ρ t3 = v3) (h4 : ρ t4 = v4) (h5 : ρ t5 = v5) (h6 : ρ t6 = v6) (h7 : ρ t7 = v7) (h8 : ρ t8 = v8) (next : WC Γ c (upd (upd (upd (upd (upd (upd (upd (upd ρ t1 v1) t2 v2) t3 v3) t4 v4) t5 v5) t6 v6) t7 v7) t8 v8) I L Q) : WC Γ c ρ I L Q := by rwa [upd_self h1, upd_self h2, upd_self h3, upd_self h4, upd_self h5, upd_self h6, upd_self h7, upd_self h8] at next
theorem ju10 {c : Code} {t1 t2 t3 t4 t5 t6 t7 t8 t9 t10 : Nat} {v1 v2 v3 v4 v5 v6 v7 v8 v9 v10 : Value} (h1 : ρ t1 = v1) (h2 : ρ t2 = v2) (h3 : ρ t3 = v3) (h4 : ρ t4 = v4) (h5 : ρ t5 = v5) (h6 : ρ t6 = v6) (h7 : ρ t7 = v7) (h8 : ρ t8 = v8) (h9 : ρ t9 = v9) (h10 : ρ t10 = v10) (next : WC Γ c (upd (upd (upd (upd (upd (upd (upd (upd (upd (upd ρ t1 v1) t2 v2) t3 v3) t4 v4) t5 v5) t6 v6) t7 v7) t8 v8) t9 v9) t10 v10) I L Q) : WC Γ c ρ I L Q := by rwa [upd_self h1, upd_self h2, upd_self h3, upd_self h4, upd_self h5, upd_self h6, upd_self h7, upd_self h8, upd_self h9, upd_self h10] at next
theorem ju11 {c : Code} {t1 t2 t3 t4 t5 t6 t7 t8 t9 t10 t11 : Nat} {v1 v2 v3 v4 v5 v6 v7 v8 v9 v10 v11 : Value} (h1 : ρ t1 = v1) (h2 : ρ t2 = v2) (h3 : ρ t3 = v3) (h4 : ρ t4 = v4) (h5 : ρ t5 = v5) (h6 : ρ t6 = v6) (h7 : ρ t7 = v7) (h8 : ρ t8 = v8) (h9 : ρ t9 = v9) (h10 : ρ t10 = v10) (h11 : ρ t11 = v11) (next : WC Γ c (upd (upd (upd (upd (upd (upd (upd (upd (upd (upd (upd ρ t1 v1) t2 v2) t3 v3) t4 v4) t5 v5) t6 v6) t7 v7) t8 v8) t9 v9) t10 v10) t11 v11) I L Q) : WC Γ c ρ I L Q := by rwa [upd_self h1, upd_self h2, upd_self h3, upd_self h4, upd_self h5, upd_self h6, upd_self h7, upd_self h8, upd_self h9, upd_self h10, upd_self h11] at next
theorem jee {d1 d2 : Option Nat} {op1 op2 : Op} {ty1 ty2 : TypeId} {ps1 ps2 : String} {af1 af2 : Array Edge} {g1 g2 : Option (Nat × Bool)} {listed : Array Bool} (i j : Nat) (hi : ops[i]? = some { dst := d1, op := op1, type := ty1, pos := ps1, after := af1, guard := g1 }) (hj : ops[j]? = some { dst := d2, op := op2, type := ty2, pos := ps2, after := af2, guard := g2 })
  (h1 : WL Γ ops [{ dst := d1, op := op1, type := ty1, pos := ps1, after := af1, guard := g1 }] ρ I L (Exit.then (WAK Γ ops Q z i I0 L0 fuel (listed.setIfInBounds i true)) Q)) (h2 : WL Γ ops [{ dst := d2, op := op2, type := ty2, pos := ps2, after := af2, guard := g2 }] ρ I L (Exit.then (WAK Γ ops Q z j I0 L0 fuel (listed.setIfInBounds j true)) Q)) (hr : Region.ready .any ops listed = [i, j] := by kernel_rfl) :
  WB Γ ops Q z I0 L0 (fuel + 1) listed ρ I L := fun _ => WA.eff2 hr hi hj rfl rfl h1 h2
theorem jCf {id d2 : Nat} {ty2 : TypeId} {ps2 : String} {af2 : Array Edge} {u w : Code} (hx : ev ρ x = .int k m) (hy : ev ρ y = .int k n) (next : WC Γ w (upd (upd ρ d (.bool false)) d2 (.bool false)) I L Q) (h : m ≠ n := by omega) (hd : Nat.blt d Γ.n = true := by exact rfl) (hd2 : Nat.blt d2 Γ.n = true := by exact rfl) :
  WC Γ (.seq (.region id #[{ dst := some d, op := .binOp .eql t x y t', type := ty, pos := ps, after := af, guard := none }, { dst := some d2, op := .assign (.tmp d), type := ty2, pos := ps2, after := af2, guard := none }] false) (.cond (.tmp d2) u w)) ρ I L Q :=
 jS (jv hx hy (jg (q := false) (by show upd ρ d _ d = _; simp [upd, Nat.beq_refl]) (jM (jE next (by show upd _ d2 _ d2 = _; simp [upd, Nat.beq_refl]))) hd2) h hd)
theorem jP {fn : Func} {F : HP} {Lr : List HP} {v : Value} {R : Value → Mem → List HP → Prop} (ks : List Nat) (hres : RunRes Γ fn ρ I L v) [hp : PickL (0 :: ks) L (F :: L') Lr] (hR : R v I L') (hI : I0.le I := by first | exact Mem.le.refl _ | assumption) (hds : Γ.ds = [] := by rfl) :
  WX Γ .ret ρ I L (bodyPost Γ.P fn (FnPost Γ.E F I0 R)) := WX.doneP hres ks hI hR hds
end
end Go.Sl

namespace Go.Sl
open Go.RowKit
def heapOf (W : World) : Mem := fun b => W.heap[b]?
theorem Ctr.calls {P : Program} {f : FuncId} {args : List Value} {W : World} {R : Value → Mem → List HP → Prop} (h : Ctr P f args (heapOf W) [] R) :
  Calls P f args.toArray W fun e w' => ∃ v I' L', e = .returned v ∧ Below W.heap.size W w' ∧ R v I' L' := by
 refine (h ⟨W.tape, W.os, W.output⟩ W (fun _ => True) ⟨rfl, rfl, rfl, fun b o hb => hb, fun _ => none, fun _ _ hb => (by cases hb), fun b => .inr rfl, fun _ => none, fun _ => none, fun _ _ hb => hb, fun _ _ hb => hb, fun _ => .inl rfl, trivial, trivial⟩).mono ?_
 rintro e w' ⟨v, I', L', he, hI, hw, hR⟩
 have key : ∀ k, k < W.heap.size → w'.heap[k]? = W.heap[k]? := fun k hk => by
  have h1 : W.heap[k]? = some W.heap[k] := Array.getElem?_eq_getElem hk
  rw [h1]
  exact hw.imm k _ (hI k _ h1)
 refine ⟨v, I', L', he, ⟨hw.os, hw.tape, hw.output, ?_, key⟩, hR⟩
 rcases Nat.eq_zero_or_pos W.heap.size with h0 | h0
 ·omega
 ·have h1 := key (W.heap.size - 1) (by omega)
  have h2 : W.heap[W.heap.size - 1]? = some W.heap[W.heap.size - 1] := Array.getElem?_eq_getElem (by omega)
  rw [h2] at h1
  have := (Array.getElem?_eq_some_iff.1 h1).1
  omega
end Go.Sl

namespace Go.Sl
open Go.RowKit Go.ChangeShapes Go.WideShapes
section
variable {H : Type} {enc : TypeId × Value → H} {P : Program} {W : World} {t e : TypeId} {cs : List Value}
def TrodOk (enc : TypeId × Value → H) (P : Program) (W : World) (t : TypeId) (cs : List Value) : Prop := ∃ fuel x, DataW.trod enc P W 0 (fun _ => true) true fuel t cs = some x
theorem TrodOk.of {v : Value} {d : DataW H} {ps : List MemPlace} (h : DataW.Trod enc P W 0 (fun _ => true) true t v d ps) : TrodOk enc P W t v.cells.toList := by
 obtain ⟨f, h⟩ := h; exact ⟨f, _, h⟩
theorem TrodOk.int {k : IntKind} (h : TrodOk enc P W t cs) (ht : P.underlying t = some (.int k)) : ∃ n, cs = [.int k n] ∧ k.min ≤ n ∧ n ≤ k.max := by
 obtain ⟨f, x, h⟩ := h
 obtain ⟨n, hc, _, hw⟩ := DataW.trod_int ht h
 simp [Lit.wf] at hw
 exact ⟨n, hc, hw⟩
theorem TrodOk.bool (h : TrodOk enc P W t cs) (ht : P.underlying t = some .bool) : ∃ b, cs = [.bool b] := by
 obtain ⟨f, x, h⟩ := h
 obtain ⟨n, hc, _⟩ := DataW.trod_bool ht h
 exact ⟨n, hc⟩
theorem TrodOk.slice {sz : Nat} (h : TrodOk enc P W t cs) (ht : slk P t = some (e, sz)) (hsz : 0 < sz) :
  ∃ a len cap, cs = [.slice a len cap] ∧ (len ≤ cap ∧ cap ≤ maxLen) ∧ (len = 0 ∨ ∃ b off, a = some ⟨b, off, none⟩ ∧ ∀ i, i < len → ∃ C, C.length = sz ∧ At (heapOf W) b (off + i * sz) C ∧ TrodOk enc P W e C) := by
 obtain ⟨f, x, h⟩ := h
 obtain ⟨hu, ie, hie, hn⟩ := SlK.und ht
 have hce : P.cellsOf e = sz := by simp [Program.cellsOf, hie, hn]
 rcases Go.Deep.open_slice hu h with ⟨rfl, _⟩ | ⟨a, len, cap, m, n, D, Pl, rfl, _, hl, hm, hmm, _, hx⟩
 ·exact ⟨none, 0, 0, rfl, ⟨Nat.le_refl _, Nat.zero_le _⟩, .inl rfl⟩
 ·have hml : len ≤ m := by rw [hmm]; simp; omega
  refine ⟨some a, len, cap, rfl, ⟨hl, hm⟩, ?_⟩
  rcases Nat.eq_zero_or_pos len with h0 | h0
  ·exact .inl h0
  right
  obtain ⟨b, off, s⟩ := a
  have hs : s = none := by
   obtain ⟨cs', h1, _⟩ := hx 0 (by omega)
   obtain ⟨_, hlen, hcell⟩ := World.cells?_some h1
   have := hcell 0 (by omega)
   rw [Nat.zero_mul] at this
   have hc0 : cs'[0]? = some (cs'[0]'(by omega)) := List.getElem?_eq_getElem (by omega)
   rw [hc0] at this
   simp only [Addr.add, if_true, World.cell?] at this
   cases s with
   | none => rfl
   | some s =>
    split at this
    ·simp at this
    ·cases this
  subst hs
  refine ⟨b, off, rfl, fun i hi => ?_⟩
  obtain ⟨cs', h1, h2⟩ := hx i (by omega)
  rw [hce] at h1
  obtain ⟨_, hlen, hcell⟩ := World.cells?_some h1
  refine ⟨cs', hlen, ?_, n, _, h2⟩
  have hc := fun j hj => hcell j hj
  simp only [addr_add] at hc
  have h00 := hc 0 (by omega)
  have hlt : 0 < cs'.length := by omega
  rw [List.getElem?_eq_getElem hlt] at h00
  unfold World.cell? at h00
  cases hb : W.heap[b]? with
  | none => simp [hb] at h00
  | some o =>
   cases o with
   | cells c ty fr =>
    refine ⟨c, ty, fr, hb, fun j v hj => ?_⟩
    have hjl : j < cs'.length := by
     rcases Nat.lt_or_ge j cs'.length with h | h
     ·exact h
     ·rw [List.getElem?_eq_none h] at hj; cases hj
    have := hc j (by omega)
    rw [hj] at this
    simpa [World.cell?, hb] using this
   | _ => simp [hb] at h00
/-! leaf by leaf -/
def LeafOk (enc : TypeId × Value → H) (P : Program) (W : World) : List TypeId → List Value → Prop
 | [], [] => True
 | t :: l, c :: r => TrodOk enc P W t [c] ∧ LeafOk enc P W l r
 | _, _ => False
theorem LeafOk.cons {t : TypeId} {l : List TypeId} (h : LeafOk enc P W (t :: l) cs) : ∃ c r, cs = c :: r ∧ TrodOk enc P W t [c] ∧ LeafOk enc P W l r := by
 cases cs with
 | nil => exact h.elim
 | cons c r => exact ⟨c, r, rfl, h.1, h.2⟩
theorem LeafOk.nil (h : LeafOk enc P W [] cs) : cs = [] := by
 cases cs with
 | nil => rfl
 | cons c r => exact h.elim
theorem LeafOk.append : ∀ {l l' : List TypeId} {r r' : List Value}, LeafOk enc P W l r → LeafOk enc P W l' r' → LeafOk enc P W (l ++ l') (r ++ r')
 | [], _, [], _, _, h => h
 | _ :: _, _, _ :: _, _, ⟨h1, h2⟩, h => ⟨h1, LeafOk.append h2 h⟩
 | [], _, _ :: _, _, h, _ => h.elim
 | _ :: _, _, [], _, h, _ => h.elim
def lfields (P : Program) (rc : TypeId → Option (List TypeId)) : Nat → List Field → Option (List TypeId)
 | _, [] => some []
 | off, f :: fs => if f.offset = off then (rc f.type).bind fun ls => if P.cellsOf f.type = ls.length then (lfields P rc (off + ls.length) fs).map (ls ++ ·) else none else none
def leaves (P : Program) : Nat → TypeId → Option (List TypeId)
 | 0, _ => none
 | d + 1, t => match P.underlying t with
  | some (.struct fs) => (lfields P (leaves P d) 0 fs.toList).bind fun ls => if P.cellsOf t = ls.length then some ls else none
  | some (.array n e) => (leaves P d e).bind fun ls => if P.cellsOf e = ls.length ∧ P.cellsOf t = n * ls.length then some (List.replicate n ls).flatten else none
  | some (.int _) => some [t]
  | some .bool => some [t]
  | some .string => some [t]
  | some (.slice _) => some [t]
  | _ => none
theorem lfields_ok {rc : TypeId → Option (List TypeId)} (hrc : ∀ t ls cs, rc t = some ls → TrodOk enc P W t cs → LeafOk enc P W ls cs) : ∀ (fs : List Field) (off : Nat) (ls : List TypeId), lfields P rc off fs = some ls →
  (∀ f ∈ fs, TrodOk enc P W f.type ((cs.drop f.offset).take (P.cellsOf f.type))) → LeafOk enc P W ls ((cs.drop off).take ls.length)
 | [], off, ls, h, _ => by simp [lfields] at h; subst h; simp [LeafOk]
 | f :: fs, off, ls, h, hall => by
  simp only [lfields] at h
  split at h
  ·rename_i hoff
   cases hr : rc f.type with
   | none => rw [hr] at h; simp at h
   | some l1 =>
    rw [hr] at h
    simp only [Option.bind_some] at h
    split at h
    ·rename_i hc
     cases h2 : lfields P rc (off + l1.length) fs with
     | none => rw [h2] at h; simp at h
     | some l2 =>
      rw [h2] at h
      simp at h
      subst h
      have a1 := hrc _ _ _ hr (hall f (List.mem_cons_self ..))
      have a2 := lfields_ok hrc fs _ _ h2 fun g hg => hall g (List.mem_cons_of_mem _ hg)
      rw [hoff, hc] at a1
      have := a1.append a2
      rwa [List.length_append, List.take_add, List.drop_drop]
    ·cases h
  ·cases h
theorem trod_array {n : Nat} {fuel : Nat} {x : DataW H × List MemPlace} (ht : P.underlying t = some (.array n e)) (h : DataW.trod enc P W 0 (fun _ => true) true fuel t cs = some x) :
  cs.length = P.cellsOf t ∧ ∀ i, i < n → TrodOk enc P W e ((cs.drop (i * P.cellsOf e)).take (P.cellsOf e)) := by
 cases fuel with
 | zero => simp [DataW.trod] at h
 | succ m =>
  unfold DataW.trod at h
  rw [ht] at h
  split at h <;> simp_all
  obtain ⟨hl, xs, hp, hd⟩ := h
  intro i hi
  have h1 := mapM_some_get hp i i (by simp [hi])
  have h2 := mapM_some_length hp
  simp at h2
  rw [List.getElem?_eq_getElem (by omega)] at h1
  exact ⟨m, _, h1⟩
theorem leaf_rep {ls : List TypeId} {k : Nat} (hk : k = ls.length) : ∀ (n off : Nat), (∀ i, i < n → LeafOk enc P W ls ((cs.drop (off + i * k)).take k)) → LeafOk enc P W (List.replicate n ls).flatten ((cs.drop off).take (n * k))
 | 0, off, _ => by simp [LeafOk]
 | n + 1, off, h => by
  have h1 := h 0 (by omega)
  simp only [Nat.zero_mul, Nat.add_zero] at h1
  have h2 := leaf_rep hk n (off + k) fun i hi => by
   have := h (i + 1) (by omega)
   rwa [Nat.add_mul, Nat.one_mul, Nat.add_comm (i * k) k, ← Nat.add_assoc] at this
  rw [List.replicate_succ, List.flatten_cons, Nat.add_mul, Nat.one_mul, Nat.add_comm (n * k) k, List.take_add, List.drop_drop]
  exact h1.append h2
theorem leaves_ok : ∀ (d : Nat) (t : TypeId) (ls : List TypeId) (cs : List Value), leaves P d t = some ls → TrodOk enc P W t cs → LeafOk enc P W ls cs := by
 intro d
 induction d with
 | zero => intro t ls cs h; simp [leaves] at h
 | succ d ih =>
  intro t ls cs h hr
  have hr0 := hr
  simp only [leaves] at h
  split at h
  ·rename_i fs hfs
   cases hl : lfields P (leaves P d) 0 fs.toList with
   | none => rw [hl] at h; simp at h
   | some l =>
    rw [hl] at h
    simp only [Option.bind_some] at h
    split at h
    ·rename_i hc
     simp at h; subst h
     obtain ⟨f, x, hr⟩ := hr
     obtain ⟨xs, n, _, _, hlen, hsz, hget⟩ := DataW.trod_struct hfs hr
     have := lfields_ok (cs := cs) ih fs.toList 0 l hl fun g hg => by
      obtain ⟨i, hi, rfl⟩ := List.mem_iff_getElem.1 hg
      have h1 := hget i fs.toList[i] (by simp at hi ⊢)
      rw [List.getElem?_eq_getElem (by simp at hi; omega)] at h1
      exact ⟨n, _, h1⟩
     rw [List.drop_zero, List.take_of_length_le (by omega)] at this
     exact this
    ·cases h
  ·rename_i n e he
   cases hl : leaves P d e with
   | none => rw [hl] at h; simp at h
   | some l =>
    rw [hl] at h
    simp only [Option.bind_some] at h
    split at h
    ·rename_i hc
     simp at h; subst h
     obtain ⟨f, x, hr⟩ := hr
     obtain ⟨hlen, hget⟩ := trod_array he hr
     have := leaf_rep (enc := enc) (P := P) (W := W) (cs := cs) hc.1 n 0 fun i hi => by
      rw [Nat.zero_add]
      exact ih _ _ _ hl (hget i hi)
     rw [List.drop_zero, List.take_of_length_le (by rw [hlen, hc.2, hc.1]; exact Nat.le_refl _)] at this
     exact this
    ·cases h
  ·rename_i k hk
   simp at h; subst h
   obtain ⟨n, rfl, _⟩ := hr.int hk
   exact ⟨hr0, trivial⟩
  ·rename_i hk
   simp at h; subst h
   obtain ⟨n, rfl⟩ := hr.bool hk
   exact ⟨hr0, trivial⟩
  ·rename_i hk
   simp at h; subst h
   obtain ⟨f, x, hr⟩ := hr
   obtain ⟨n, rfl, _⟩ := DataW.trod_string hk hr
   exact ⟨hr0, trivial⟩
  ·rename_i e hk
   simp at h; subst h
   obtain ⟨f, x, hr⟩ := hr
   rcases DataW.trod_slice hk hr with ⟨rfl, _⟩ | ⟨a, len, cap, _, _, _, _, rfl, _⟩
   ·exact ⟨hr0, trivial⟩
   ·exact ⟨hr0, trivial⟩
  ·cases h
class LvK (P : Program) (t : Nat) (ls : outParam (List TypeId)) : Prop where
 is : leaves P 8 t = some ls
theorem TrodOk.leaves {ls : List TypeId} (h : TrodOk enc P W t cs) [hk : LvK P t ls] : LeafOk enc P W ls cs := leaves_ok 8 t ls cs hk.is h
theorem TrodOk.i64 (h : TrodOk enc P W t cs) [hk : IntK P t .i64] : ∃ n, cs = [.int .i64 n] ∧ -9223372036854775808 ≤ n ∧ n ≤ 9223372036854775807 := h.int hk.is
theorem TrodOk.u8 (h : TrodOk enc P W t cs) [hk : IntK P t .u8] : ∃ x : Fin 256, cs = [byt x] := by
 obtain ⟨n, rfl, h0, h1⟩ := h.int hk.is
 have h0' : 0 ≤ n := h0
 have h1' : n ≤ 255 := h1
 exact ⟨⟨n.toNat, by omega⟩, by simp only [byt]; congr 2; omega⟩
theorem TrodOk.b (h : TrodOk enc P W t cs) [hk : BoolK P t] : ∃ b, cs = [.bool b] := h.bool hk.is
theorem At.join {I : Mem} {b sz : Nat} {C : Nat → List Value} : ∀ (n off : Nat), 0 < n → (∀ i, i < n → (C i).length = sz ∧ At I b (off + i * sz) (C i)) → At I b off ((List.range n).map C).flatten := by
 intro n off hn h
 obtain ⟨c, ty, fr, hb, _⟩ := (h 0 hn).2
 refine ⟨c, ty, fr, hb, ?_⟩
 have key : ∀ m, m ≤ n → ∀ j v, ((List.range m).map C).flatten[j]? = some v → c[off + j]? = some v := by
  intro m
  induction m with
  | zero => intro _ j v hj; simp at hj
  | succ m ih =>
   intro hm j v hj
   rw [List.range_succ, List.map_append, List.flatten_append] at hj
   have hlen : ((List.range m).map C).flatten.length = m * sz := by
    clear hj ih
    induction m with
    | zero => simp
    | succ m ih2 =>
     rw [List.range_succ, List.map_append, List.flatten_append, List.length_append, ih2 (by omega)]
     simp only [List.map_cons, List.map_nil, List.flatten_cons, List.flatten_nil, List.append_nil]
     rw [(h m (by omega)).1, Nat.add_mul, Nat.one_mul]
   rcases Nat.lt_or_ge j (m * sz) with hlt | hge
   ·rw [List.getElem?_append_left (by omega)] at hj
    exact ih (by omega) j v hj
   ·rw [List.getElem?_append_right (by omega), hlen] at hj
    simp only [List.map_cons, List.map_nil, List.flatten_cons, List.flatten_nil, List.append_nil] at hj
    obtain ⟨c', ty', fr', hb', hC⟩ := (h m (by omega)).2
    rw [hb] at hb'
    cases hb'
    have := hC _ _ hj
    rwa [show off + m * sz + (j - m * sz) = off + j by omega] at this
 exact key n (Nat.le_refl _)
end
end Go.Sl

namespace Go.Ls
open Go.Sl
abbrev vi (n : Int) : Value := .int .i64 n
abbrev ptr (b : Nat) : Value := .pointer (some ⟨b, 0, none⟩)
def I64 (n : Int) : Prop := -9223372036854775808 ≤ n ∧ n ≤ 9223372036854775807
def All2 {α β : Type} (R : α → β → Prop) : List α → List β → Prop
 | [], [] => True
 | a :: l, b :: r => R a b ∧ All2 R l r
 | _, _ => False
theorem All2.imp {α β : Type} {R S : α → β → Prop} (h : ∀ a b, R a b → S a b) : ∀ {l : List α} {r : List β}, All2 R l r → All2 S l r
 | [], [], _ => trivial
 | _ :: _, _ :: _, ⟨h1, h2⟩ => ⟨h _ _ h1, All2.imp h h2⟩
 | [], _ :: _, hh => hh.elim
 | _ :: _, [], hh => hh.elim
theorem All2.snoc {α β : Type} {R : α → β → Prop} {a : α} {b : β} (h : R a b) : ∀ {l : List α} {r : List β}, All2 R l r → All2 R (l ++ [a]) (r ++ [b])
 | [], [], _ => ⟨h, trivial⟩
 | _ :: _, _ :: _, ⟨h1, h2⟩ => ⟨h1, All2.snoc h h2⟩
 | [], _ :: _, hh => hh.elim
 | _ :: _, [], hh => hh.elim
theorem All2.app {α β : Type} {R : α → β → Prop} : ∀ {l : List α} {r : List β} {l' : List α} {r' : List β}, All2 R l r → All2 R l' r' → All2 R (l ++ l') (r ++ r')
 | [], [], _, _, _, h => h
 | _ :: _, _ :: _, _, _, ⟨h1, h2⟩, h => ⟨h1, All2.app h2 h⟩
 | [], _ :: _, _, _, hh, _ => hh.elim
 | _ :: _, [], _, _, hh, _ => hh.elim
theorem All2.len {α β : Type} {R : α → β → Prop} : ∀ {l : List α} {r : List β}, All2 R l r → l.length = r.length
 | [], [], _ => rfl
 | _ :: _, _ :: _, ⟨_, h⟩ => by rw [List.length_cons, List.length_cons, h.len]
 | [], _ :: _, hh => hh.elim
 | _ :: _, [], hh => hh.elim
abbrev Rep (α : Type) := Mem → α → List Value → Prop
def LsAt {α : Type} (R : Rep α) (I : Mem) (l : List α) (v : Value) : Prop := ∃ css, SlAt I v l.length css.flatten ∧ All2 (R I) l css
class RepMono {α : Type} (R : Rep α) : Prop where
 mono : ∀ {I I' : Mem} {x : α} {cs : List Value}, R I x cs → I.le I' → R I' x cs
theorem LsAt.mono {α : Type} {R : Rep α} [hR : RepMono R] {I I' : Mem} {l : List α} {v : Value} (h : LsAt R I l v) (hI : I.le I') : LsAt R I' l v := by
 obtain ⟨css, h1, h2⟩ := h
 exact ⟨css, h1.mono hI, h2.imp fun a b h => hR.mono h hI⟩
theorem LsAt.nil {α : Type} (R : Rep α) (I : Mem) : LsAt R I [] (.slice none 0 0) := ⟨[], SlAt.nil I, trivial⟩
theorem LsAt.sl {α : Type} {R : Rep α} {I : Mem} {l : List α} {v : Value} (h : LsAt R I l v) : ∃ a cap, v = .slice a l.length cap := by
 obtain ⟨css, ⟨a, cap, hv, _⟩, _⟩ := h
 exact ⟨a, cap, hv⟩
theorem LsAt.le {α : Type} {R : Rep α} {I : Mem} {l : List α} {v : Value} (h : LsAt R I l v) : l.length ≤ 9223372036854775807 := by
 obtain ⟨css, h1, _⟩ := h
 exact h1.le
class RepLen {α : Type} (R : Rep α) (sz : outParam Nat) : Prop where
 len : ∀ {I : Mem} {x : α} {cs : List Value}, R I x cs → cs.length = sz
theorem flat_get {α : Type} {R : α → List Value → Prop} {sz : Nat} (hlen : ∀ x cs, R x cs → cs.length = sz) : ∀ {l : List α} {css : List (List Value)} (h : All2 R l css) (k : Nat) (hk : k < l.length),
  ∃ cs, R l[k] cs ∧ (css.flatten.drop (k * sz)).take sz = cs
 | [], _, _, k, hk => by simp at hk
 | x :: l, [], h, k, hk => h.elim
 | x :: l, cs :: css, ⟨h1, h2⟩, 0, hk => ⟨cs, h1, by simp [← hlen x cs h1]⟩
 | x :: l, cs :: css, ⟨h1, h2⟩, k + 1, hk => by
  obtain ⟨cs', hR, hd⟩ := flat_get hlen h2 k (by simpa using hk)
  refine ⟨cs', hR, ?_⟩
  rw [List.flatten_cons, show (k + 1) * sz = cs.length + k * sz by rw [hlen x cs h1, Nat.add_mul, Nat.one_mul, Nat.add_comm], ← List.drop_drop, List.drop_left]
  exact hd
theorem LsAt.get {α : Type} {R : Rep α} {sz : Nat} [hL : RepLen R sz] {I : Mem} {l : List α} {v : Value} (h : LsAt R I l v) (k : Nat) (hk : k < l.length) :
  ∃ b off cap cs, v = .slice (some ⟨b, off, none⟩) l.length cap ∧ R I l[k] cs ∧ At I b (off + (k : Int).toNat * sz) cs := by
 obtain ⟨css, ⟨a, cap, rfl, hc, ⟨h0, _⟩ | ⟨b, off, rfl, hA⟩⟩, hall⟩ := h
 ·omega
 ·obtain ⟨cs, hR, hd⟩ := flat_get (fun x cs h => hL.len h) hall k hk
  exact ⟨b, off, cap, cs, rfl, hR, by
   have := (hA.drop (k * sz)).take sz
   rw [hd] at this
   exact this⟩
theorem flat_len {α : Type} {R : Rep α} {sz : Nat} [hL : RepLen R sz] {I : Mem} : ∀ {l : List α} {css : List (List Value)}, All2 (R I) l css → css.flatten.length = l.length * sz
 | [], [], _ => by simp
 | x :: l, cs :: css, ⟨h1, h2⟩ => by rw [List.flatten_cons, List.length_append, hL.len h1, flat_len h2, List.length_cons, Nat.add_mul, Nat.one_mul, Nat.add_comm]
 | [], _ :: _, hh => hh.elim
 | _ :: _, [], hh => hh.elim
theorem LsAt.cap {α : Type} {R : Rep α} {I : Mem} {l : List α} {a : Option Addr} {n cap : Nat} (h : LsAt R I l (.slice a n cap)) : l.length ≤ cap ∧ cap ≤ maxLen := by
 obtain ⟨css, ⟨a, cap, hv, hc, _⟩, _⟩ := h
 injection hv with h1 h2 h3
 subst h3
 exact hc
theorem flat_drop {α : Type} {R : Rep α} {sz : Nat} [hL : RepLen R sz] {I : Mem} : ∀ (k : Nat) {l : List α} {css : List (List Value)}, All2 (R I) l css → (css.drop k).flatten = css.flatten.drop (k * sz) ∧ All2 (R I) (l.drop k) (css.drop k)
 | 0, l, css, h => by simpa using h
 | k + 1, [], [], h => by simp [All2]
 | k + 1, x :: l, cs :: css, ⟨h1, h2⟩ => by
  obtain ⟨e, h3⟩ := flat_drop k h2
  refine ⟨?_, h3⟩
  rw [List.drop_succ_cons, e, List.flatten_cons, show (k + 1) * sz = cs.length + k * sz by rw [hL.len h1, Nat.add_mul, Nat.one_mul, Nat.add_comm], ← List.drop_drop, List.drop_left]
 | _ + 1, [], _ :: _, h => h.elim
 | _ + 1, _ :: _, [], h => h.elim
theorem LsAt.drop {α : Type} {R : Rep α} {sz : Nat} [hL : RepLen R sz] {I : Mem} {l : List α} {b off n cap : Nat} (h : LsAt R I l (.slice (some ⟨b, off, none⟩) n cap)) (k : Nat) (hk : k ≤ l.length) : LsAt R I (l.drop k) (.slice (some ⟨b, off + k * sz, none⟩) (l.length - k) (cap - k)) := by
 obtain ⟨css, ⟨a, cap', hv, hc, hcs⟩, hall⟩ := h
 injection hv with h1 h2 h3
 subst h3
 obtain ⟨e, h4⟩ := flat_drop k hall
 refine ⟨css.drop k, ⟨_, _, by rw [List.length_drop], ⟨by rw [List.length_drop]; omega, by omega⟩, ?_⟩, h4⟩
 rw [e]
 rcases hcs with ⟨h0, h9⟩ | ⟨b', off', he, hA⟩
 ·exact .inl ⟨by rw [List.length_drop, h0, Nat.zero_sub], by rw [h9, List.drop_nil]⟩
 ·rw [he] at h1
  injection h1 with h1
  injection h1 with h1 h5
  subst h1; subst h5
  exact .inr ⟨b, _, rfl, hA.drop _⟩
def Int.rep : Rep Int := fun _ n cs => cs = [vi n] ∧ I64 n
instance : RepMono Int.rep := ⟨fun h _ => h⟩
instance : RepLen Int.rep 1 := ⟨fun h => by rw [h.1]; rfl⟩
def OwnL {α : Type} (R : Rep α) (e sz : Nat) (I : Mem) (l : List α) (v : Value) (p : HP) : Prop := ∃ css, p = sl e sz v l.length css.flatten ∧ All2 (R I) l css
theorem OwnL.mono {α : Type} {R : Rep α} [hR : RepMono R] {e sz : Nat} {I I' : Mem} {l : List α} {v : Value} {p : HP} (h : OwnL R e sz I l v p) (hI : I.le I') : OwnL R e sz I' l v p := by
 obtain ⟨css, h1, h2⟩ := h
 exact ⟨css, h1, h2.imp fun a b h => hR.mono h hI⟩
theorem OwnL.nil {α : Type} (R : Rep α) (e sz : Nat) (I : Mem) : OwnL R e sz I [] (.slice none 0 0) (sl e sz (.slice none 0 0) 0 []) := ⟨[], rfl, trivial⟩
end Go.Ls
namespace Go.Sl
open Go.Ls
section
variable {Γ : Cx} {ops : Array Oper} {rest : List Oper} {ρ : Nat → Value} {I : Mem} {L : List HP} {Q : Post} {ty : TypeId} {ps : String} {af : Array Edge} {d t : Nat}
theorem WX.freezeL {α : Type} {R : Rep α} [hR : RepMono R] {c : Exit} {e sz : Nat} {v : Value} {l : List α} {p : HP} {L' : List HP} (k : Nat) (hL : L[k]? = some p) (hp : OwnL R e sz I l v p) [hE : EraL L k L'] (next : ∀ I', I.le I' → LsAt R I' l v → WX Γ c ρ I' L' Q) : WX Γ c ρ I L Q := by
 obtain ⟨css, rfl, h2⟩ := hp
 exact WX.freeze k hL fun I' hI hA => next I' hI ⟨css, hA, h2.imp fun a b h => hR.mono h hI⟩
theorem WL.freezeL {α : Type} {R : Rep α} [hR : RepMono R] {e sz : Nat} {v : Value} {l : List α} {p : HP} {L' : List HP} (k : Nat) (hL : L[k]? = some p) (hp : OwnL R e sz I l v p) [hE : EraL L k L'] (next : ∀ I', I.le I' → LsAt R I' l v → WL Γ ops rest ρ I' L' Q) : WL Γ ops rest ρ I L Q := by
 obtain ⟨css, rfl, h2⟩ := hp
 exact WL.freeze k hL fun I' hI hA => next I' hI ⟨css, hA, h2.imp fun a b h => hR.mono h hI⟩
theorem WL.appL {α : Type} {R : Rep α} {e sz by_ : Nat} [hRl : RepLen R sz] {s x : Operand} {v u : Value} {l m : List α} {p : HP} {zs : List Value} (k : Nat) [hk : SlK Γ.P t e sz] [hz : ZeroK Γ.P e zs] [hb : BytK Γ.P e by_]
  (hs : ev ρ s = v) (hL : L[k]? = some p) (hp : OwnL R e sz I l v p) (hx : ev ρ x = u) (hu : LsAt R I m u) (h1 : ∀ (x : α) cs, R I x cs → cs.all Value.oneCell' = true) (hzs : zs.length = sz) (hsz : 0 < sz)
  (hbound : (l.length + m.length) * by_ ≤ 140737488355328) (hmax : l.length + m.length ≤ maxLen) (hd : Nat.blt d Γ.n = true)
  (next : ∀ aa cap p', OwnL R e sz I (l ++ m) (.slice aa (l ++ m).length cap) p' → WL Γ ops rest (upd ρ d (.slice aa (l ++ m).length cap)) I (L.set k p') Q) :
  WL Γ ops ({ dst := some d, op := .call { callee := .builtin .append, args := #[s, x], argTypes := #[t, t] }, type := ty, pos := ps, after := af, guard := none } :: rest) ρ I L Q := by
 obtain ⟨css, rfl, h2⟩ := hp
 obtain ⟨dss, hA, h3⟩ := hu
 have hone : ∀ {l : List α} {r : List (List Value)}, All2 (R I) l r → r.flatten.all Value.oneCell' = true := by
  intro l
  induction l with
  | nil => intro r h; cases r with | nil => rfl | cons _ _ => exact h.elim
  | cons a l ih => intro r h; cases r with
   | nil => exact h.elim
   | cons c r => rw [List.flatten_cons, List.all_append, h1 _ _ h.1, ih h.2]; rfl
 refine WL.appAt k hs hL hx hA (Ls.flat_len h3) (hone h3) hzs hsz hbound hmax hd fun aa cap => ?_
 have := next aa cap (sl e sz (.slice aa (l ++ m).length cap) (l ++ m).length (css ++ dss).flatten) ⟨css ++ dss, rfl, h2.app h3⟩
 rw [List.flatten_append, List.length_append] at this
 exact this
theorem WL.appOne {α : Type} {R : Rep α} {e sz by_ bt g : Nat} {s x : Operand} {v : Value} {l : List α} {y : α} {p : HP} {zs cs : List Value} (k j : Nat) [hk : SlK Γ.P t e sz] [hz : ZeroK Γ.P e zs] [hb : BytK Γ.P e by_]
  (hs : ev ρ s = v) (hL : L[k]? = some p) (hp : OwnL R e sz I l v p) (hx : ev ρ x = .slice (some ⟨g, 0, none⟩) 1 1) (hg : L[j]? = some (Sl.box g bt cs)) (hy : R I y cs) (hcl : cs.length = sz) (h1 : cs.all Value.oneCell' = true) (hzs : zs.length = sz) (hsz : 0 < sz)
  (hbound : (l.length + 1) * by_ ≤ 140737488355328) (hmax : l.length + 1 ≤ maxLen) (hd : Nat.blt d Γ.n = true)
  (next : ∀ aa cap p', OwnL R e sz I (l ++ [y]) (.slice aa (l.length + 1) cap) p' → WL Γ ops rest (upd ρ d (.slice aa (l.length + 1) cap)) I (L.set k p') Q) :
  WL Γ ops ({ dst := some d, op := .call { callee := .builtin .append, args := #[s, x], argTypes := #[t, t] }, type := ty, pos := ps, after := af, guard := none } :: rest) ρ I L Q := by
 obtain ⟨css, rfl, h2⟩ := hp
 refine WL.append (ys := cs) k hs hL hx (Rd.ownN sz j hg (by rw [List.drop_zero]; exact List.take_of_length_le (by omega))) (by omega) h1 hzs hsz (by decide) hbound hmax hd fun g2 cap => ?_
 have := next (some ⟨g2, 0, none⟩) cap (sl e sz (.slice (some ⟨g2, 0, none⟩) (l.length + 1) cap) (l ++ [y]).length (css ++ [cs]).flatten) ⟨css ++ [cs], rfl, h2.snoc hy⟩
 rw [List.flatten_append, List.flatten_cons, List.flatten_nil, List.append_nil, List.length_append] at this
 exact this
end
/-! what is owned, is read -/
theorem Sat.slSome {E : Ev} {w : World} {I : Mem} {L : List HP} {e sz n cap : Nat} {aa : Option Addr} {xs : List Value} (k : Nat) (hL : L[k]? = some (sl e sz (.slice aa n cap) n xs)) (hn : 0 < n) (hw : Sat E w I L) : ∃ g, aa = some ⟨g, 0, none⟩ := by
 obtain ⟨m, hm, h1, h2⟩ := (hw.perm (pull k L _ hL)).head
 rcases h2 with ⟨_, h0⟩ | ⟨g, c, cur, hv, _⟩
 ·omega
 ·injection hv with hv; exact ⟨g, hv⟩
section
variable {Γ : Cx} {ops : Array Oper} {rest : List Oper} {ρ : Nat → Value} {I : Mem} {L : List HP} {Q : Post} {ty : TypeId} {ps : String} {af : Array Edge} {d t : Nat}
theorem WC.slSome {c : Code} {e sz n cap : Nat} {aa : Option Addr} {xs : List Value} (k : Nat) (hL : L[k]? = some (sl e sz (.slice aa n cap) n xs)) (hn : 0 < n) (next : ∀ g, aa = some ⟨g, 0, none⟩ → WC Γ c ρ I L Q) : WC Γ c ρ I L Q := fun a w ha hw => by
 obtain ⟨g, h⟩ := hw.slSome k hL hn; exact next g h a w ha hw
theorem WL.slOpen {e sz n : Nat} {v : Value} {xs : List Value} (k : Nat) (hL : L[k]? = some (sl e sz v n xs)) (next : ∀ aa cap, v = .slice aa n cap → WL Γ ops rest ρ I L Q) : WL Γ ops rest ρ I L Q := fun a w ha hw => by
 obtain ⟨m, hm, h1, h2⟩ := (hw.perm (pull k L _ hL)).head
 rcases h2 with ⟨rfl, rfl⟩ | ⟨g, cap, cur, hv, _⟩
 ·exact next _ _ rfl a w ha hw
 ·exact next _ _ hv a w ha hw
theorem Rd.slN {e sz n cap g : Nat} {xs : List Value} (k : Nat) (hL : L[k]? = some (sl e sz (.slice (some ⟨g, 0, none⟩) n cap) n xs)) (off : Nat) (vs : List Value) (hv : ∀ j v, vs[j]? = some v → xs[off + j]? = some v) : Rd I L g off vs := by
 intro E w hw j v hj
 obtain ⟨m, hm, h1, h2⟩ := (hw.perm (pull k L _ hL)).head
 rcases h2 with ⟨h0, _⟩ | ⟨g', c, cur, hv', hg, _, _, _, ht⟩
 ·cases h0
 ·injection hv' with hv'
  injection hv' with hv'
  injection hv' with hv'
  subst hv'
  have hh := hm _ _ hg
  have h3 := hv j v hj
  rw [← ht, List.getElem?_take] at h3
  split at h3
  ·simp only [World.cell?, hh, Option.isSome_none, Bool.false_eq_true, if_false]
   simpa using h3
  ·cases h3
theorem Rd.sl1 {e sz n cap g off : Nat} {xs : List Value} {v : Value} (k : Nat) (hL : L[k]? = some (sl e sz (.slice (some ⟨g, 0, none⟩) n cap) n xs)) (hv : xs[off]? = some v) : Rd I L g off [v] :=
 Rd.slN k hL off [v] fun j u hj => by
  cases j with
  | zero => simp at hj; subst hj; exact hv
  | succ j => simp at hj
theorem WL.appI {g bt : Nat} {s x : Operand} {v : Value} {l : List Int} {i : Int} {zs : List Value} (k j : Nat) [hk : SlK Γ.P t 3 1] [hz : ZeroK Γ.P 3 zs] [hb : BytK Γ.P 3 8]
  (hs : ev ρ s = v) (hL : L[k]? = some (sl 3 1 v l.length (l.map vi))) (hx : ev ρ x = .slice (some ⟨g, 0, none⟩) 1 1) (hg : L[j]? = some (Sl.box g bt [vi i])) (hzs : zs.length = 1) (hl : l.length ≤ 1099511627776) (hd : Nat.blt d Γ.n = true)
  (next : ∀ aa cap, WL Γ ops rest (upd ρ d (.slice aa (l ++ [i]).length cap)) I (L.set k (sl 3 1 (.slice aa (l ++ [i]).length cap) (l ++ [i]).length ((l ++ [i]).map vi))) Q) :
  WL Γ ops ({ dst := some d, op := .call { callee := .builtin .append, args := #[s, x], argTypes := #[t, t] }, type := ty, pos := ps, after := af, guard := none } :: rest) ρ I L Q :=
 WL.append (ys := [vi i]) k hs hL hx (Rd.ownN 1 j hg rfl) rfl rfl hzs (by decide) (by decide) (by omega) (by unfold maxLen; omega) hd fun g2 cap => by
  have := next (some ⟨g2, 0, none⟩) cap
  simp only [List.length_append, List.map_append, List.length_cons, List.length_nil, List.map_cons, List.map_nil] at this
  exact this
theorem Val.sliceFrom {t e n len cap m b off : Nat} {x lo : Operand} [hk : SlK Γ.P t e n] (hx : ev ρ x = .slice (some ⟨b, off, none⟩) len cap) (hl : ev ρ lo = .int .i64 (m : Int)) (h1 : m ≤ len) (h2 : len ≤ cap) (h3 : m < cap) : Val Γ ρ I L (.slice t x (some lo) none none) ty (.slice (some ⟨b, off + m * n, none⟩) (len - m) (cap - m)) := by
 have := Val.slice (Γ := Γ) (I := I) (L := L) (ty := ty) (t := t) (e := e) (n := n) (hk := hk) (l := m) (h := len) hx (.some (e := (m : Int)) hl (Int.natCast_nonneg m)) (.none _) h1 h2
 rw [if_neg (by omega), Option.map_some, addr_add] at this
 exact this
theorem WL.lit {α : Type} {R : Rep α} [hR : RepMono R] {g e sz : Nat} {l : List α} {css : List (List Value)} {L' : List HP} (k : Nat) (hL : L[k]? = some (Sl.box g e css.flatten)) (hall : All2 (R I) l css) (hn : css.flatten.length = l.length * sz) (hm : l.length ≤ maxLen) [hE : EraL L k L']
  (next : ∀ I', I.le I' → LsAt R I' l (.slice (some ⟨g, 0, none⟩) l.length l.length) → WL Γ ops rest ρ I' L' Q) : WL Γ ops rest ρ I L Q := fun a w ha hw => by
 obtain ⟨I', h1, h2, h3⟩ := ((hw.perm (pull k L _ hL)).box_sl (e := e) (sz := sz) hn hm).freezeAt
 rw [hE.is] at h2
 exact next I' h1 ⟨css, h3, hall.imp fun a b h => hR.mono h h1⟩ a w ha h2
end
end Go.Sl
