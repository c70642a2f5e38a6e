/-
 '==' of structs and arrays of numbers and bools.
-/
import Derived.Test.YtggcpoleklcmkaaGreatDoorX1
import Derived.Laws.StructEq
import Derived.ChangeKeysEq
import Derived.Laws.BytesString
import Derived.Below
import Derived.Deep.Slices
import Derived.MapKept
set_option linter.unusedVariables false
set_option linter.unusedSimpArgs false
set_option maxRecDepth 100000
set_option maxHeartbeats 8000000
namespace Go.Sl
open Go.RowKit
inductive CK where
 | i (k : IntKind)
 | b
 deriving DecidableEq
def CK.ok : CK → Value → Bool
 | .i k, .int k' _ => decide (k = k')
 | .b, .bool _ => true
 | _, _ => false
def wfC : List CK → List Value → Bool
 | [], [] => true
 | k :: ks, v :: vs => k.ok v && wfC ks vs
 | _, _ => false
def cellEq : Value → Value → Bool
 | .int _ a, .int _ b => a == b
 | .bool a, .bool b => a == b
 | _, _ => false
def cellsEq : List Value → List Value → Bool
 | x :: xs, y :: ys => cellEq x y && cellsEq xs ys
 | _, _ => true
theorem wfC_len : ∀ {ks : List CK} {vs : List Value}, wfC ks vs = true → vs.length = ks.length
 | [], [], _ => rfl
 | k :: ks, v :: vs, h => by simp [wfC] at h; simp [wfC_len h.2]
 | [], _ :: _, h => by simp [wfC] at h
 | _ :: _, [], h => by simp [wfC] at h
theorem wfC_int {k : IntKind} {vs : List Value} (h : wfC [.i k] vs = true) : ∃ a, vs = [.int k a] := by
 have hl := wfC_len h
 cases vs with
 | nil => simp at hl
 | cons v vs =>
  simp at hl; subst hl
  simp [wfC] at h
  cases v <;> simp [CK.ok] at h
  subst h; exact ⟨_, rfl⟩
theorem wfC_bool {vs : List Value} (h : wfC [.b] vs = true) : ∃ a, vs = [.bool a] := by
 have hl := wfC_len h
 cases vs with
 | nil => simp at hl
 | cons v vs =>
  simp at hl; subst hl
  simp [wfC] at h
  cases v <;> simp [CK.ok] at h
  exact ⟨_, rfl⟩
theorem wfC_append : ∀ {ks ks' : List CK} {vs : List Value}, wfC (ks ++ ks') vs = true → wfC ks (vs.take ks.length) = true ∧ wfC ks' (vs.drop ks.length) = true
 | [], ks', vs, h => by simpa [wfC] using h
 | k :: ks, ks', v :: vs, h => by
  simp [wfC] at h ⊢
  exact ⟨⟨h.1, (wfC_append h.2).1⟩, (wfC_append h.2).2⟩
 | k :: ks, ks', [], h => by simp [wfC] at h
theorem cellsEq_split : ∀ (n : Nat) (xs ys : List Value), xs.length = ys.length → cellsEq xs ys = (cellsEq (xs.take n) (ys.take n) && cellsEq (xs.drop n) (ys.drop n))
 | 0, xs, ys, h => by simp [cellsEq]
 | n + 1, [], [], h => by simp [cellsEq]
 | n + 1, x :: xs, y :: ys, h => by
  simp at h
  simp only [List.take_succ_cons, List.drop_succ_cons, cellsEq, Bool.and_assoc]
  rw [cellsEq_split n xs ys h]
 | n + 1, [], y :: ys, h => by simp at h
 | n + 1, x :: xs, [], h => by simp at h
def eqfields (P : Program) (rc : TypeId → Option (List CK)) : Nat → List Field → Option (List CK)
 | _, [] => some []
 | off, f :: fs =>
  if f.name = "_" ∨ f.offset ≠ off then none else
  match rc f.type, P.info? f.type with
  | some ks, some i => if i.size = ks.length then (eqfields P rc (off + ks.length) fs).map (ks ++ ·) else none
  | _, _ => none
def eqflat (P : Program) : Nat → TypeId → Option (List CK)
 | 0, _ => none
 | d + 1, t =>
  match P.underlying t, P.info? t with
  | some (.int k), some i => if i.size = 1 then some [.i k] else none
  | some .bool, some i => if i.size = 1 then some [.b] else none
  | some (.struct fs), some i => if P.stoodInHeld t then none else eqfields P (eqflat P d) 0 fs.toList
  | some (.array n e), some _ => match eqflat P d e, P.info? e with
   | some ks, some i => if i.size = ks.length then some (List.replicate n ks).flatten else none
   | _, _ => none
  | _, _ => none
def valOf (P : Program) (t : TypeId) (vs : List Value) : Value :=
 match P.underlying t with
 | some (.struct _) | some (.array _ _) => .agg vs.toArray
 | _ => vs.headD undef
theorem run_part_valOf {P : Program} {t : TypeId} {i : TypeInfo} {d : TypeDesc} (hd : P.underlying t = some d) (hi : P.info? t = some i) (hs : 0 < i.size ∨ (∃ fs, d = .struct fs) ∨ (∃ n e, d = .array n e)) (cs : List Value) (off : Nat) (h : off + i.size ≤ cs.length) (w : World) :
  (part t cs.toArray off).run P w = .ok (valOf P t ((cs.drop off).take i.size)) w := by
 have hz : (sizeOf t).run P w = .ok i.size w := by rw [run_sizeOf w hi]; simp [Program.cellsOf, hi]
 have agg : (cs.toArray.extract off (off + i.size)) = ((cs.drop off).take i.size).toArray := by
  apply Array.ext'; simp
 unfold part isAgg valOf
 simp only [Sem.run_bind, run_underlying hd, Result.andThen_ok]
 cases d
 case struct fs => rw [hd]; simp only [pure_bind, Sem.run_pure, Result.andThen_ok, if_true, Sem.run_bind, hz, agg]
 case array n e => rw [hd]; simp only [pure_bind, Sem.run_pure, Result.andThen_ok, if_true, Sem.run_bind, hz, agg]
 all_goals
  rw [hd]
  simp only [Sem.run_pure, Result.andThen_ok, Bool.false_eq_true, if_false]
  have h0 : 0 < i.size := by
   rcases hs with h | ⟨_, h⟩ | ⟨_, _, h⟩
   ·exact h
   ·cases h
   ·cases h
  have hlt : off < cs.length := by omega
  have : cs.toArray[off]? = some cs[off] := by simp [hlt]
  simp only [this]
  rw [List.drop_eq_getElem_cons hlt]
  obtain ⟨n, hn⟩ : ∃ n, i.size = n + 1 := ⟨i.size - 1, by omega⟩
  rw [hn, List.take_succ_cons]
  rfl
theorem eqflat_size {P : Program} {d : Nat} {t : TypeId} {ks : List CK} (h : eqflat P d t = some ks) : ∃ x i, P.underlying t = some x ∧ P.info? t = some i ∧ ((∃ k, x = .int k ∧ ks = [.i k] ∧ i.size = 1) ∨ (x = .bool ∧ ks = [.b] ∧ i.size = 1) ∨ (∃ fs, x = .struct fs) ∨ (∃ n e, x = .array n e)) := by
 cases d with
 | zero => simp [eqflat] at h
 | succ d =>
  simp only [eqflat] at h
  split at h
  ·rename_i k i h1 h2
   split at h
   ·simp at h; exact ⟨_, _, h1, h2, .inl ⟨k, rfl, h.symm, by assumption⟩⟩
   ·cases h
  ·rename_i i h1 h2
   split at h
   ·simp at h; exact ⟨_, _, h1, h2, .inr (.inl ⟨rfl, h.symm, by assumption⟩)⟩
   ·cases h
  ·rename_i fs i h1 h2; exact ⟨_, _, h1, h2, .inr (.inr (.inl ⟨fs, rfl⟩))⟩
  ·rename_i n e i h1 h2; exact ⟨_, _, h1, h2, .inr (.inr (.inr ⟨n, e, rfl⟩))⟩
  ·cases h
def EqOk (P : Program) (d : Nat) : Prop := ∀ (t : TypeId) (ks : List CK), eqflat P d t = some ks → ∀ (D : Nat) (xs ys : List Value), wfC ks xs = true → wfC ks ys = true → ∀ w, (Op.equalIn (d + D) t (valOf P t xs) (valOf P t ys)).run P w = .ok (cellsEq xs ys) w
theorem fields_sound (P : Program) (d : Nat) (first : EqOk P d) : ∀ (fs : List Field) (off : Nat) (ks : List CK), eqfields P (eqflat P d) off fs = some ks → ∀ (D : Nat) (pre pre' xs ys : List Value), pre.length = off → pre'.length = off → wfC ks xs = true → wfC ks ys = true → ∀ w,
   (Op.eqFields (d + D) (pre ++ xs).toArray (pre' ++ ys).toArray fs).run P w = .ok (cellsEq xs ys) w := by
 intro fs
 induction fs with
 | nil =>
  intro off ks h D pre pre' xs ys hp hp' hx hy w
  simp [eqfields] at h; subst h
  have := wfC_len hx; have := wfC_len hy; simp at *
  subst_vars; simp [Op.eqFields, cellsEq]
 | cons f fs ihf =>
  intro off ks h D pre pre' xs ys hp hp' hx hy w
  simp only [eqfields] at h
  split at h
  ·cases h
  ·rename_i hn
   simp only [not_or, Decidable.not_not] at hn
   split at h
   ·rename_i ks' i' h3 h4
    split at h
    ·rename_i hsz
     simp only [Option.map_eq_some_iff] at h
     obtain ⟨ks2, hk2, rfl⟩ := h
     obtain ⟨hx1, hx2⟩ := wfC_append hx
     obtain ⟨hy1, hy2⟩ := wfC_append hy
     have lx := wfC_len hx; have ly := wfC_len hy
     have lx1 := wfC_len hx1; have ly1 := wfC_len hy1
     simp only [List.length_append] at lx ly
     obtain ⟨x, ii, q1, q2, q3⟩ := eqflat_size h3
     have hii : ii = i' := by rw [h4] at q2; exact (Option.some.inj q2).symm
     subst hii
     have hs : 0 < ii.size ∨ (∃ fs, x = .struct fs) ∨ (∃ n e, x = .array n e) := by
      rcases q3 with ⟨_, _, _, h⟩ | ⟨_, _, h⟩ | h | h
      ·exact .inl (by omega)
      ·exact .inl (by omega)
      ·exact .inr (.inl h)
      ·exact .inr (.inr h)
     have p1 := run_part_valOf q1 q2 hs (pre ++ xs) f.offset (by simp; omega) w
     have p2 := run_part_valOf q1 q2 hs (pre' ++ ys) f.offset (by simp; omega) w
     rw [hn.2, ← hp, List.drop_left, hsz] at p1
     rw [hn.2, ← hp', List.drop_left, hsz] at p2
     rw [hp] at p1; rw [hp'] at p2
     have p3 := first f.type ks' h3 D _ _ hx1 hy1 w
     simp only [Op.eqFields, hn.1, ne_eq, not_false_eq_true, if_true, Sem.run_bind, hn.2, p1, p2, p3, Result.andThen_ok]
     rw [cellsEq_split ks'.length xs ys (by omega)]
     cases hq : cellsEq (xs.take ks'.length) (ys.take ks'.length)
     ·simp
     ·simp only [Bool.not_true, Bool.false_eq_true, if_false, Bool.true_and]
      have := ihf (off + ks'.length) ks2 hk2 D (pre ++ xs.take ks'.length) (pre' ++ ys.take ks'.length) (xs.drop ks'.length) (ys.drop ks'.length) (by simp; omega) (by simp; omega) hx2 hy2 w
      simpa [List.append_assoc] using this
    ·cases h
   ·cases h
theorem eq_sound (P : Program) : ∀ (d : Nat), EqOk P d := by
 intro d
 induction d with
 | zero => exact fun t ks h => by simp [eqflat] at h
 | succ d ih =>
  intro t ks h D xs ys hx hy w
  have e : d + 1 + D = (d + D) + 1 := by omega
  rw [e]
  simp only [eqflat] at h
  split at h
  ·rename_i k i h1 h2
   split at h
   ·simp at h; subst h
    obtain ⟨a, rfl⟩ := wfC_int hx
    obtain ⟨b, rfl⟩ := wfC_int hy
    simp only [valOf, h1, List.headD_cons, cellsEq, cellEq, Bool.and_true]
    exact run_equalIn_int w _ _ _ _ _ _ h1
   ·cases h
  ·rename_i i h1 h2
   split at h
   ·simp at h; subst h
    obtain ⟨a, rfl⟩ := wfC_bool hx
    obtain ⟨b, rfl⟩ := wfC_bool hy
    simp only [valOf, h1, List.headD_cons, cellsEq, cellEq, Bool.and_true]
    exact run_equalInB h1 _ _ _ _
   ·cases h
  ·rename_i fs i h1 h2
   split at h
   ·cases h
   ·rename_i hst
    have hf : P.fieldsOf t = fs := by simp [Program.fieldsOf, h1]
    simp only [valOf, h1]
    rw [run_equalIn_struct w _ _ _ _ (by rw [hf]; exact h1) (by simpa using hst), hf]
    exact fields_sound P d ih fs.toList 0 ks h D [] [] xs ys rfl rfl hx hy w
  ·rename_i n e i h1 h2
   split at h
   ·rename_i ks' i' h3 h4
    split at h
    ·rename_i hsz
     simp at h
     simp only [valOf, h1]
     rw [run_equalIn_array w _ _ _ h1 h4]
     have hc : P.cellsOf e = ks'.length := by simp [Program.cellsOf, h4, hsz]
     rw [hc]
     -- the elements one by one
     have key : ∀ (m k : Nat) (pre pre' xs ys : List Value), pre.length = k * ks'.length → pre'.length = k * ks'.length → wfC (List.replicate m ks').flatten xs = true → wfC (List.replicate m ks').flatten ys = true → ∀ w,
       (Op.eqItems (d + D) e ks'.length (pre ++ xs).toArray (pre' ++ ys).toArray (List.range' k m)).run P w = .ok (cellsEq xs ys) w := by
      intro m
      induction m with
      | zero =>
       intro k pre pre' xs ys _ _ hx hy w
       have := wfC_len hx; have := wfC_len hy; simp at *
       subst_vars; simp [Op.eqItems, cellsEq]
      | succ m ihm =>
       intro k pre pre' xs ys hp hp' hx hy w
       rw [List.replicate_succ, List.flatten_cons] at hx hy
       obtain ⟨hx1, hx2⟩ := wfC_append hx
       obtain ⟨hy1, hy2⟩ := wfC_append hy
       have lx := wfC_len hx; have ly := wfC_len hy
       have lx1 := wfC_len hx1; have ly1 := wfC_len hy1
       simp only [List.length_append] at lx ly
       obtain ⟨x, ii, q1, q2, q3⟩ := eqflat_size h3
       have hii : ii = i' := by rw [h4] at q2; exact (Option.some.inj q2).symm
       subst hii
       have hs : 0 < ii.size ∨ (∃ fs, x = .struct fs) ∨ (∃ n e, x = .array n e) := by
        rcases q3 with ⟨_, _, _, h⟩ | ⟨_, _, h⟩ | h | h
        ·exact .inl (by omega)
        ·exact .inl (by omega)
        ·exact .inr (.inl h)
        ·exact .inr (.inr h)
       have p1 := run_part_valOf q1 q2 hs (pre ++ xs) (k * ks'.length) (by simp; omega) w
       have p2 := run_part_valOf q1 q2 hs (pre' ++ ys) (k * ks'.length) (by simp; omega) w
       rw [← hp, List.drop_left, hsz] at p1
       rw [← hp', List.drop_left, hsz] at p2
       rw [hp] at p1; rw [hp'] at p2
       have p3 := (ih e ks' h3 D _ _ hx1 hy1 w)
       rw [List.range'_succ]
       simp only [Op.eqItems, Sem.run_bind, p1, p2, p3, Result.andThen_ok]
       rw [cellsEq_split ks'.length xs ys (by omega)]
       cases hq : cellsEq (xs.take ks'.length) (ys.take ks'.length)
       ·simp
       ·simp only [Bool.not_true, Bool.false_eq_true, if_false, Bool.true_and]
        have := ihm (k + 1) (pre ++ xs.take ks'.length) (pre' ++ ys.take ks'.length) (xs.drop ks'.length) (ys.drop ks'.length) (by simp [Nat.succ_mul]; omega) (by simp [Nat.succ_mul]; omega) hx2 hy2 w
        simpa [List.append_assoc] using this
     have := key n 0 [] [] xs ys (by simp) (by simp) (by rw [h]; exact hx) (by rw [h]; exact hy) w
     rw [List.range_eq_range']
     exact this
    ·cases h
   ·cases h
  ·cases h
class EqK (P : Program) (t : Nat) (ks : outParam (List CK)) : Prop where
 is : eqflat P 6 t = some ks
 agg : (tyk P t).map (·.1) = some true
 guard : P.eqGuardType P.depth t = false
theorem run_eqlS {P : Program} {t : Nat} {ks : List CK} (h : EqK P t ks) {xs ys : List Value} (hx : wfC ks xs = true) (hy : wfC ks ys = true) (w : World) : (Op.equal t (.agg xs.toArray) (.agg ys.toArray)).run P w = .ok (cellsEq xs ys) w := by
 have h1 := eq_sound P 6 t ks h.is 9994 xs ys hx hy w
 have h2 : ∀ vs, valOf P t vs = .agg vs.toArray := fun vs => by
  have ha := h.agg
  unfold tyk at ha
  unfold valOf
  split at ha <;> rename_i e1 e2 <;> first | (rw [e1]) | (simp at ha)
  rename_i hno1 hno2 
  split <;> first | rfl | (rename_i hno3 hno4; exact absurd ha (by simp))
 rw [h2, h2] at h1
 exact h1
section
variable {Γ : Cx} {ρ : Nat → Value} {I : Mem} {L : List HP} {ty : TypeId}
theorem run_eqGuardS {P : Program} {t : Nat} (h : P.eqGuardType P.depth t = false) (op : BinOp) (hop : op = .eql ∨ op = .neq) (x y : Operand) (xs ys : Array Value) (w : World) : (eqGuard op t x y (.agg xs) (.agg ys)).run P w = .ok () w := by
 rcases hop with rfl | rfl <;> simp [eqGuard, Sem.run_bind, run_program, h]
theorem Val.eqlS {t t' : Nat} {x y : Operand} {ks : List CK} {xs ys : List Value} [hk : EqK Γ.P t ks] (hx : ev ρ x = .agg xs.toArray) (hy : ev ρ y = .agg ys.toArray) (wx : wfC ks xs = true) (wy : wfC ks ys = true) :
  Val Γ ρ I L (.binOp .eql t x y t') ty (.bool (cellsEq xs ys)) := fun w _ => by
 simp only [execOp, hx, hy, Sem.run_bind, run_eqGuardS hk.guard .eql (.inl rfl), Result.andThen_ok, binOp, run_eqlS hk wx wy]; rfl
theorem Val.neqS {t t' : Nat} {x y : Operand} {ks : List CK} {xs ys : List Value} [hk : EqK Γ.P t ks] (hx : ev ρ x = .agg xs.toArray) (hy : ev ρ y = .agg ys.toArray) (wx : wfC ks xs = true) (wy : wfC ks ys = true) :
  Val Γ ρ I L (.binOp .neq t x y t') ty (.bool (!cellsEq xs ys)) := fun w _ => by
 simp only [execOp, hx, hy, Sem.run_bind, run_eqGuardS hk.guard .neq (.inr rfl), Result.andThen_ok, binOp, run_eqlS hk wx wy]; rfl
theorem cellsEq_self : ∀ {ks : List CK} {xs : List Value}, wfC ks xs = true → cellsEq xs xs = true
 | [], [], _ => rfl
 | k :: ks, v :: xs, h => by
  simp only [wfC, Bool.and_eq_true] at h
  simp only [cellsEq, cellsEq_self h.2, Bool.and_true]
  have := h.1
  cases k <;> cases v <;> simp_all [CK.ok, cellEq]
 | [], _ :: _, h => by simp [wfC] at h
 | _ :: _, [], h => by simp [wfC] at h
theorem Val.eqlSame {t t' : Nat} {x y : Operand} {ks : List CK} {xs : List Value} [hk : EqK Γ.P t ks] (hx : ev ρ x = .agg xs.toArray) (hy : ev ρ y = .agg xs.toArray) (wx : wfC ks xs = true) :
  Val Γ ρ I L (.binOp .eql t x y t') ty (.bool true) := by
 have := Val.eqlS (Γ := Γ) (t := t) (I := I) (L := L) (ty := ty) (t' := t') hx hy wx wx
 rwa [cellsEq_self wx] at this
theorem Val.neqSame {t t' : Nat} {x y : Operand} {ks : List CK} {xs : List Value} [hk : EqK Γ.P t ks] (hx : ev ρ x = .agg xs.toArray) (hy : ev ρ y = .agg xs.toArray) (wx : wfC ks xs = true) :
  Val Γ ρ I L (.binOp .neq t x y t') ty (.bool false) := by
 have := Val.neqS (Γ := Γ) (t := t) (I := I) (L := L) (ty := ty) (t' := t') hx hy wx wx
 rwa [cellsEq_self wx] at this
end
end Go.Sl

namespace Go.Sl
section
variable {Γ : Cx} {ops : Array Oper} {rest : List Oper} {ρ : Nat → Value} {I : Mem} {L : List HP} {Q : Post} {ty : TypeId} {ps : String} {af : Array Edge} {d : Option Nat}
end
section
variable {Γ : Cx} {ρ : Nat → Value} {I : Mem} {L : List HP}
theorem ResIs.tmpI {t : Nat} {k : IntKind} {m : Int} (h : ρ t = .int k m) : ResIs Γ ρ I L (.tmp t) (.int k m) := ResIs.tmp h
theorem ResIs.tmpB {t : Nat} {b : Bool} (h : ρ t = .bool b) : ResIs Γ ρ I L (.tmp t) (.bool b) := ResIs.tmp h
theorem ResIs.tmpP {t : Nat} {p : Option Addr} (h : ρ t = .pointer p) : ResIs Γ ρ I L (.tmp t) (.pointer p) := ResIs.tmp h
theorem ResIs.tmpS {t : Nat} {p : Option Addr} {m n : Nat} (h : ρ t = .slice p m n) : ResIs Γ ρ I L (.tmp t) (.slice p m n) := ResIs.tmp h
end
end Go.Sl

namespace Go.Sl
open Go.RowKit
def SlAt (I : Mem) (v : Value) (n : Nat) (cs : List Value) : Prop :=
 ∃ a cap, v = .slice a n cap ∧ (n ≤ cap ∧ cap ≤ maxLen) ∧ ((n = 0 ∧ cs = []) ∨ ∃ b off, a = some ⟨b, off, none⟩ ∧ At I b off cs)
theorem SlAt.mono {I I' : Mem} {v : Value} {n : Nat} {cs : List Value} (h : SlAt I v n cs) (hI : I.le I') : SlAt I' v n cs := by
 obtain ⟨a, cap, hv, hc, h⟩ := h
 exact ⟨a, cap, hv, hc, h.imp id fun ⟨b, off, h1, h2⟩ => ⟨b, off, h1, h2.mono hI⟩⟩
theorem SlAt.nil (I : Mem) : SlAt I (.slice none 0 0) 0 [] := ⟨none, 0, rfl, ⟨Nat.le_refl _, Nat.zero_le _⟩, .inl ⟨rfl, rfl⟩⟩
abbrev byt (x : Fin 256) : Value := .int .u8 (x.val : Int)
theorem At.drop {I : Mem} {b off : Nat} {cs : List Value} (h : At I b off cs) (k : Nat) : At I b (off + k) (cs.drop k) := by
 obtain ⟨c, ty, fr, h1, h2⟩ := h
 refine ⟨c, ty, fr, h1, fun j v hj => ?_⟩
 rw [List.getElem?_drop] at hj
 have := h2 _ _ hj
 rwa [← Nat.add_assoc] at this
theorem At.take {I : Mem} {b off : Nat} {cs : List Value} (h : At I b off cs) (k : Nat) : At I b off (cs.take k) := by
 obtain ⟨c, ty, fr, h1, h2⟩ := h
 refine ⟨c, ty, fr, h1, fun j v hj => ?_⟩
 rw [List.getElem?_take] at hj
 split at hj
 ·exact h2 _ _ hj
 ·cases hj
theorem SlAt.le {I : Mem} {v : Value} {n : Nat} {cs : List Value} (h : SlAt I v n cs) : n ≤ maxLen := by
 obtain ⟨a, cap, hv, hc, _⟩ := h; exact Nat.le_trans hc.1 hc.2
theorem Sat.freezeAt {E : Ev} {w : World} {I : Mem} {L : List HP} {e sz n : Nat} {v : Value} {xs : List Value} (h : Sat E w I (sl e sz v n xs :: L)) : ∃ I', I.le I' ∧ Sat E w I' L ∧ SlAt I' v n xs := by
 obtain ⟨I', h1, h2, ⟨rfl, rfl, rfl⟩ | ⟨g, cap, rfl, hc, hm, h3⟩⟩ := h.sl_freeze
 ·exact ⟨I', h1, h2, SlAt.nil _⟩
 ·exact ⟨I', h1, h2, _, _, rfl, ⟨hc, hm⟩, .inr ⟨g, 0, rfl, h3⟩⟩
section
variable {Γ : Cx} {ops : Array Oper} {rest : List Oper} {ρ : Nat → Value} {I : Mem} {L : List HP} {Q : Post} {ty : TypeId} {ps : String} {af : Array Edge}
theorem WC.slNil {c : Code} (e sz : Nat) (next : WC Γ c ρ I (L ++ [sl e sz (.slice none 0 0) 0 []]) Q) : WC Γ c ρ I L Q := fun a w ha hw => next a w ha ((hw.sl_nil (e := e) (sz := sz)).perm (List.perm_append_comm (l₁ := [_])))
theorem WL.slNil (e sz : Nat) (next : WL Γ ops rest ρ I (L ++ [sl e sz (.slice none 0 0) 0 []]) Q) : WL Γ ops rest ρ I L Q := fun a w ha hw => next a w ha ((hw.sl_nil (e := e) (sz := sz)).perm (List.perm_append_comm (l₁ := [_])))
theorem Val.eqlNil {t t' e n len cap : Nat} {a : Option Addr} {x : Operand} [hk : SlK Γ.P t e n] (hx : ev ρ x = .slice a len cap) : Val Γ ρ I L (.binOp .eql t x (.const (.slice none 0 0)) t') ty (.bool a.isNone) :=
 fun w _ => by
  obtain ⟨hu, _⟩ := SlK.und hk.is
  have h1 : (Op.equal t (.slice a len cap) (.slice none 0 0)).run Γ.P w = .ok a.isNone w := by
   unfold Op.equal Op.maxDepth
   show (Op.equalIn (9999 + 1) t (.slice a len cap) (.slice none 0 0)).run Γ.P w = _
   unfold Op.equalIn
   cases a <;> (simp only [Sem.run_bind, run_underlying hu, Result.andThen_ok]; rfl)
  simp only [execOp, hx]
  simp [eqGuard, binOp, h1, ev]
  all_goals rfl
/-! strings of bytes -/
theorem Val.makeFuncL {fn : Fn} {p q : List Operand} : Val Γ ρ I L (.makeFunc fn p.toArray q.toArray) ty (.func fn (p.map (ev ρ)).toArray (q.map (ev ρ)).toArray) := fun w hw => by
 have := Val.makeFunc (Γ := Γ) (ρ := ρ) (I := I) (L := L) (ty := ty) (fn := fn) (p := p.toArray) (q := q.toArray) w hw
 simpa only [List.map_toArray] using this
class AddN (a b : Nat) (c : outParam Nat) : Prop where
 is : a + b = c
instance (priority := low) {a b : Nat} : AddN a b (a + b) := ⟨rfl⟩
instance {a : Nat} : AddN a 0 a := ⟨rfl⟩
instance (priority := high) {b : Nat} : AddN 0 b b := ⟨Nat.zero_add b⟩
theorem Val.fldAddr {s f b off o n o' : Nat} {g : Bool} {x : Operand} [hk : FldK Γ.P s f o g n] (hx : ev ρ x = .pointer (some ⟨b, off, none⟩)) [h : AddN off o o'] :
  Val Γ ρ I L (.fieldAddr s x f) ty (.pointer (some ⟨b, o', none⟩)) := by rw [← h.is]; exact Val.fieldAddr hx
/-! lists are kept written out -/
class SplL (cs : List Value) (off : Nat) (vs : List Value) (out : outParam (List Value)) : Prop where
 is : splice cs off vs = out
instance {cs : List Value} : SplL cs 0 [] cs := ⟨by simp [splice]⟩
instance {c v : Value} {cs vs o : List Value} [h : SplL cs 0 vs o] : SplL (c :: cs) 0 (v :: vs) (v :: o) := ⟨by
 have := h.is
 simp [splice] at this ⊢
 exact this⟩
instance {c : Value} {k : Nat} {cs vs o : List Value} [h : SplL cs k vs o] : SplL (c :: cs) (k + 1) vs (c :: o) := ⟨by
 have := h.is
 simp only [splice] at this ⊢
 rw [List.take_succ_cons, show k + 1 + vs.length = (k + vs.length) + 1 by omega, List.drop_succ_cons]
 simp only [List.cons_append, List.append_assoc] at this ⊢
 rw [this]⟩
class SetL (L : List HP) (k : Nat) (p : HP) (out : outParam (List HP)) : Prop where
 is : L.set k p = out
instance {L : List HP} {a p : HP} : SetL (a :: L) 0 p (p :: L) := ⟨rfl⟩
instance {L o : List HP} {a p : HP} {k : Nat} [h : SetL L k p o] : SetL (a :: L) (k + 1) p (a :: o) := ⟨by rw [List.set_cons_succ, h.is]⟩
class AppL (A B : List HP) (out : outParam (List HP)) : Prop where
 is : A ++ B = out
instance {B : List HP} : AppL [] B B := ⟨rfl⟩
instance {A B o : List HP} {a : HP} [h : AppL A B o] : AppL (a :: A) B (a :: o) := ⟨by rw [List.cons_append, h.is]⟩
class EraL (A : List HP) (k : Nat) (out : outParam (List HP)) : Prop where
 is : A.eraseIdx k = out
instance {A : List HP} {a : HP} : EraL (a :: A) 0 A := ⟨rfl⟩
instance {A o : List HP} {a : HP} {k : Nat} [h : EraL A k o] : EraL (a :: A) (k + 1) (a :: o) := ⟨by rw [List.eraseIdx_cons_succ, h.is]⟩
class PickL (ks : List Nat) (L : List HP) (xs r : outParam (List HP)) : Prop where
 is : picks ks L = some (xs, r)
class TakeL (k : Nat) (L : List HP) (p : outParam HP) (r : outParam (List HP)) : Prop where
 is : L[k]? = some p ∧ L.eraseIdx k = r
instance {L : List HP} {p : HP} : TakeL 0 (p :: L) p L := ⟨rfl, rfl⟩
instance {L r : List HP} {a p : HP} {k : Nat} [h : TakeL k L p r] : TakeL (k + 1) (a :: L) p (a :: r) := ⟨by rw [List.getElem?_cons_succ]; exact h.is.1, by rw [List.eraseIdx_cons_succ, h.is.2]⟩
instance {L : List HP} : PickL [] L [] L := ⟨rfl⟩
instance {L L1 xs r : List HP} {k : Nat} {ks : List Nat} {p : HP} [h : TakeL k L p L1] [h2 : PickL ks L1 xs r] : PickL (k :: ks) L (p :: xs) r := ⟨by
 unfold picks
 rw [h.is.1, h.is.2]
 simp only [h2.is]⟩
theorem WL.nApp {A B o : List HP} [h : AppL A B o] (next : WL Γ ops rest ρ I o Q) : WL Γ ops rest ρ I (A ++ B) Q := by rw [h.is]; exact next
theorem WL.nSet {A o : List HP} {k : Nat} {p : HP} [h : SetL A k p o] (next : WL Γ ops rest ρ I o Q) : WL Γ ops rest ρ I (A.set k p) Q := by rw [h.is]; exact next
theorem WC.nApp {c : Code} {A B o : List HP} [h : AppL A B o] (next : WC Γ c ρ I o Q) : WC Γ c ρ I (A ++ B) Q := by rw [h.is]; exact next
theorem WL.callP {d : Nat} {f : FuncId} {x : Operand} {args : List Operand} {ats : Array TypeId} {fs cp vs : List Value} {Lc Lr : List HP} {R : Value → Mem → List HP → Prop} (ks : List Nat) [hf : FnK Γ.P f]
  (hx : ev ρ x = .func (.func f) fs.toArray cp.toArray) (hv : fs ++ args.map (ev ρ) ++ cp = vs) [hp : PickL ks L Lc Lr] (hc : Ctr Γ.P f vs I Lc R) (hd : Nat.blt d Γ.n = true)
  (next : ∀ v I' L', I.le I' → R v I' L' → WL Γ ops rest (upd ρ d v) I' (Lr ++ L') Q) :
  WL Γ ops ({ dst := some d, op := .call { callee := .value x, args := args.toArray, argTypes := ats }, type := ty, pos := ps, after := af, guard := none } :: rest) ρ I L Q :=
 WL.call ks hx hv hp.is hc hd next
theorem WL.stI {t b off n bt : Nat} {g : Bool} {x y : Operand} {cs cs' : List Value} {L' : List HP} {kk : IntKind} {m : Int} (k : Nat) [hk : TyK Γ.P t g n] (hx : ev ρ x = .pointer (some ⟨b, off, none⟩)) (hL : L[k]? = some (Sl.box b bt cs)) (hy : ev ρ y = .int kk m)
  (hok : storeOk [.int kk m] n off cs.length = true) [h1 : SplL cs off [.int kk m] cs'] [h2 : SetL L k (Sl.box b bt cs') L'] (next : WL Γ ops rest ρ I L' Q) :
  WL Γ ops ({ dst := none, op := .store t x y, type := ty, pos := ps, after := af, guard := none } :: rest) ρ I L Q :=
 WL.store k hx hL (by rw [hy]; exact hok) (by rw [hy]; show WL Γ ops rest ρ I (L.set k (Sl.box b bt (splice cs off [.int kk m]))) Q; rw [h1.is, h2.is]; exact next)
theorem WL.stS {t b off n bt : Nat} {g : Bool} {x y : Operand} {cs cs' : List Value} {L' : List HP} {aa : Option Addr} {mm nn : Nat} (k : Nat) [hk : TyK Γ.P t g n] (hx : ev ρ x = .pointer (some ⟨b, off, none⟩)) (hL : L[k]? = some (Sl.box b bt cs)) (hy : ev ρ y = .slice aa mm nn)
  (hok : storeOk [.slice aa mm nn] n off cs.length = true) [h1 : SplL cs off [.slice aa mm nn] cs'] [h2 : SetL L k (Sl.box b bt cs') L'] (next : WL Γ ops rest ρ I L' Q) :
  WL Γ ops ({ dst := none, op := .store t x y, type := ty, pos := ps, after := af, guard := none } :: rest) ρ I L Q :=
 WL.store k hx hL (by rw [hy]; exact hok) (by rw [hy]; show WL Γ ops rest ρ I (L.set k (Sl.box b bt (splice cs off [.slice aa mm nn]))) Q; rw [h1.is, h2.is]; exact next)
theorem WL.stA {t b off n bt : Nat} {g : Bool} {x y : Operand} {cs cs' : List Value} {L' : List HP} {vs : List Value} (k : Nat) [hk : TyK Γ.P t g n] (hx : ev ρ x = .pointer (some ⟨b, off, none⟩)) (hL : L[k]? = some (Sl.box b bt cs)) (hy : ev ρ y = .agg vs.toArray)
  (hok : storeOk vs n off cs.length = true) [h1 : SplL cs off vs cs'] [h2 : SetL L k (Sl.box b bt cs') L'] (next : WL Γ ops rest ρ I L' Q) :
  WL Γ ops ({ dst := none, op := .store t x y, type := ty, pos := ps, after := af, guard := none } :: rest) ρ I L Q :=
 WL.store k hx hL (by rw [hy]; exact hok) (by rw [hy]; show WL Γ ops rest ρ I (L.set k (Sl.box b bt (splice cs off vs))) Q; rw [h1.is, h2.is]; exact next)
class SubL (cs : List Value) (off n : Nat) (out : outParam (List Value)) : Prop where
 is : (cs.drop off).take n = out
instance {cs : List Value} : SubL cs 0 0 [] := ⟨by simp⟩
instance {c : Value} {cs o : List Value} {n : Nat} [h : SubL cs 0 n o] : SubL (c :: cs) 0 (n + 1) (c :: o) := ⟨by have := h.is; simp at this ⊢; exact this⟩
instance {c : Value} {cs o : List Value} {k n : Nat} [h : SubL cs k n o] : SubL (c :: cs) (k + 1) n o := ⟨by rw [List.drop_succ_cons]; exact h.is⟩
theorem Val.ldO {t b off n bt : Nat} {x : Operand} {cs vs : List Value} (k : Nat) [hk : TyK Γ.P t true n] (hx : ev ρ x = .pointer (some ⟨b, off, none⟩)) (hL : L[k]? = some (Sl.box b bt cs)) (hc : Nat.ble (off + n) cs.length = true) [h : SubL cs off n vs] :
  Val Γ ρ I L (.load t x) ty (.agg vs.toArray) := by rw [← h.is]; exact Val.loadO k hx hL hc
theorem ResIs.cellL {x t n b off bt : Nat} {cs vs : List Value} (k : Nat) [hk : TyK Γ.P t true n] (h : ρ x = .pointer (some ⟨b, off, none⟩)) (hL : L[k]? = some (Sl.box b bt cs)) (hc : Nat.ble (off + n) cs.length = true) [h2 : SubL cs off n vs] :
  ResIs Γ ρ I L (.cell x t) (.agg vs.toArray) := by rw [← h2.is]; exact ResIs.cellO k h hL hc
theorem WX.doneP {fn : Func} {F : HP} {I0 : Mem} {L' Lr : List HP} {v : Value} {R : Value → Mem → List HP → Prop} (hres : RunRes Γ fn ρ I L v) (ks : List Nat) [hp : PickL (0 :: ks) L (F :: L') Lr] (hI : I0.le I) (hR : R v I L') (hds : Γ.ds = [] := by rfl) :
  WX Γ .ret ρ I L (bodyPost Γ.P fn (FnPost Γ.E F I0 R)) := WX.doneR hres ks hp.is hI hR hds
theorem WL.freeze {e sz n : Nat} {v : Value} {xs : List Value} {L' : List HP} (k : Nat) (hL : L[k]? = some (sl e sz v n xs)) [hE : EraL L k L'] (next : ∀ I', I.le I' → SlAt I' v n xs → WL Γ ops rest ρ I' L' Q) : WL Γ ops rest ρ I L Q := fun a w ha hw => by
 obtain ⟨I', h1, h2, h3⟩ := (hw.perm (pull k L _ hL)).freezeAt
 rw [hE.is] at h2
 exact next I' h1 h3 a w ha h2
theorem WX.freeze {c : Exit} {e sz n : Nat} {v : Value} {xs : List Value} {L' : List HP} (k : Nat) (hL : L[k]? = some (sl e sz v n xs)) [hE : EraL L k L'] (next : ∀ I', I.le I' → SlAt I' v n xs → WX Γ c ρ I' L' Q) : WX Γ c ρ I L Q := fun a w ha hw => by
 obtain ⟨I', h1, h2, h3⟩ := (hw.perm (pull k L _ hL)).freezeAt
 rw [hE.is] at h2
 exact next I' h1 h3 a w ha h2
theorem WL.boxSl {g e sz n : Nat} {xs : List Value} {L' : List HP} (k : Nat) (hL : L[k]? = some (Sl.box g e xs)) (hn : xs.length = n * sz) (hm : n ≤ maxLen) [h2 : SetL L k (sl e sz (.slice (some ⟨g, 0, none⟩) n n) n xs) L'] (next : WL Γ ops rest ρ I L' Q) : WL Γ ops rest ρ I L Q := fun a w ha hw =>
 next a w ha (h2.is ▸ ((hw.perm (pull k L _ hL)).box_sl hn hm).perm (push_back k L _ _ hL))
end
end Go.Sl

namespace Go.Sl
open Go.RowKit
theorem At.zero {I : Mem} {b off : Nat} {cs : List Value} {v : Value} (h : At I b off cs) (hv : cs[0]? = some v) : At I b off [v] := At.one (k := 0) h hv
def EqP (p : Prop) : Value → Prop := fun v => ∃ b, v = .bool b ∧ (b = true ↔ p)
theorem EqP.t {p : Prop} (h : p) : EqP p (.bool true) := ⟨true, rfl, fun _ => h, fun _ => rfl⟩
theorem EqP.f {p : Prop} (h : ¬ p) : EqP p (.bool false) := ⟨false, rfl, fun h => (by cases h), fun k => absurd k h⟩
theorem cellsEq_iff : ∀ {ks : List CK} {xs ys : List Value}, wfC ks xs = true → wfC ks ys = true → (cellsEq xs ys = true ↔ xs = ys)
 | [], [], [], _, _ => by simp [cellsEq]
 | k :: ks, v :: xs, u :: ys, h, g => by
  simp only [wfC, Bool.and_eq_true] at h g
  have ih := cellsEq_iff h.2 g.2
  simp only [cellsEq, Bool.and_eq_true, ih, List.cons.injEq]
  have h1 := h.1; have g1 := g.1
  cases k <;> cases v <;> simp [CK.ok] at h1 <;> cases u <;> simp [CK.ok] at g1 <;> simp_all [cellEq]
 | [], _ :: _, _, h, _ => by simp [wfC] at h
 | [], [], _ :: _, _, h => by simp [wfC] at h
 | _ :: _, [], _, h, _ => by simp [wfC] at h
 | _ :: _, _ :: _, [], _, h => by simp [wfC] at h
theorem all_snoc {α : Type} {P : α → Prop} {l : List α} {k : Nat} (h : ∀ x ∈ l.take k, P x) (hk : k < l.length) (hx : P l[k]) : ∀ x ∈ l.take (k + 1), P x := by
 rw [List.take_succ_eq_append_getElem hk]
 intro x hm
 rcases List.mem_append.1 hm with hm | hm
 ·exact h x hm
 ·rw [List.mem_singleton.1 hm]; exact hx
section
variable {Γ : Cx} {ops : Array Oper} {rest : List Oper} {ρ : Nat → Value} {I : Mem} {L : List HP} {Q : Post} {ty : TypeId} {ps : String} {af : Array Edge} {d t t' : Nat} {x y : Operand}
section
variable {k : IntKind} {m n : Int} (hx : ev ρ x = .int k m) (hy : ev ρ y = .int k n) (hd : Nat.blt d Γ.n = true)
include hx hy hd
theorem WL.ltI (ht : m < n → WL Γ ops rest (upd ρ d (.bool true)) I L Q) (hf : n ≤ m → WL Γ ops rest (upd ρ d (.bool false)) I L Q) :
  WL Γ ops ({ dst := some d, op := .binOp .lss t x y t', type := ty, pos := ps, after := af, guard := none } :: rest) ρ I L Q := by
 by_cases h : m < n
 ·exact WL.val (Val.lss hx hy (decide_eq_true h)) hd (ht h)
 ·exact WL.val (Val.lss hx hy (decide_eq_false h)) hd (hf (by omega))
theorem WL.leI (ht : m ≤ n → WL Γ ops rest (upd ρ d (.bool true)) I L Q) (hf : n < m → WL Γ ops rest (upd ρ d (.bool false)) I L Q) :
  WL Γ ops ({ dst := some d, op := .binOp .leq t x y t', type := ty, pos := ps, after := af, guard := none } :: rest) ρ I L Q := by
 by_cases h : m ≤ n
 ·exact WL.val (Val.leq hx hy (decide_eq_true h)) hd (ht h)
 ·exact WL.val (Val.leq hx hy (decide_eq_false h)) hd (hf (by omega))
theorem WL.geI (ht : n ≤ m → WL Γ ops rest (upd ρ d (.bool true)) I L Q) (hf : m < n → WL Γ ops rest (upd ρ d (.bool false)) I L Q) :
  WL Γ ops ({ dst := some d, op := .binOp .geq t x y t', type := ty, pos := ps, after := af, guard := none } :: rest) ρ I L Q := by
 by_cases h : n ≤ m
 ·exact WL.val (Val.geq hx hy (decide_eq_true h)) hd (ht h)
 ·exact WL.val (Val.geq hx hy (decide_eq_false h)) hd (hf (by omega))
end
section
variable {ks : List CK} {xs ys : List Value} [hk : EqK Γ.P t ks] (hx : ev ρ x = .agg xs.toArray) (hy : ev ρ y = .agg ys.toArray) (wx : wfC ks xs = true) (wy : wfC ks ys = true) (hd : Nat.blt d Γ.n = true)
include hk hx hy wx wy hd
theorem WL.neS (ht : xs ≠ ys → WL Γ ops rest (upd ρ d (.bool true)) I L Q) (hf : xs = ys → WL Γ ops rest (upd ρ d (.bool false)) I L Q) :
  WL Γ ops ({ dst := some d, op := .binOp .neq t x y t', type := ty, pos := ps, after := af, guard := none } :: rest) ρ I L Q := by
 refine WL.val (Val.neqS hx hy wx wy) hd ?_
 have hi := cellsEq_iff wx wy
 cases h : cellsEq xs ys
 ·exact ht fun e => by rw [hi.2 e] at h; cases h
 ·exact hf (hi.1 h)
end
theorem Val.eqlD {ks : List CK} {xs ys : List Value} [hk : EqK Γ.P t ks] (hx : ev ρ x = .agg xs.toArray) (hy : ev ρ y = .agg ys.toArray) (wx : wfC ks xs = true) (wy : wfC ks ys = true) (h : xs ≠ ys) : Val Γ ρ I L (.binOp .eql t x y t') ty (.bool false) := by
 have := Val.eqlS (Γ := Γ) (t := t) (I := I) (L := L) (ty := ty) (t' := t') hx hy wx wy
 rwa [show cellsEq xs ys = false by cases e : cellsEq xs ys with | false => rfl | true => exact absurd ((cellsEq_iff wx wy).1 e) h] at this
theorem Val.neqD {ks : List CK} {xs ys : List Value} [hk : EqK Γ.P t ks] (hx : ev ρ x = .agg xs.toArray) (hy : ev ρ y = .agg ys.toArray) (wx : wfC ks xs = true) (wy : wfC ks ys = true) (h : xs ≠ ys) : Val Γ ρ I L (.binOp .neq t x y t') ty (.bool true) := by
 have := Val.neqS (Γ := Γ) (t := t) (I := I) (L := L) (ty := ty) (t' := t') hx hy wx wy
 rwa [show cellsEq xs ys = false by cases e : cellsEq xs ys with | false => rfl | true => exact absurd ((cellsEq_iff wx wy).1 e) h] at this
theorem Val.build0 {zs : List Value} {pl : List (Nat × Nat)} [hz : ZeroK Γ.P t zs] [hp : PlK Γ.P t pl] : Val Γ ρ I L (.build t #[]) ty (.agg zs.toArray) := Val.build (qs := []) rfl
theorem WL.boxA {x : Operand} {cs : List Value} (hx : ev ρ x = .agg cs.toArray) (hd : Nat.blt d Γ.n = true)
  (next : ∀ g, WL Γ ops rest (upd ρ d (.pointer (some ⟨g, 0, none⟩))) I (L ++ [Sl.box g t cs]) Q) : WL Γ ops ({ dst := some d, op := .box t x, type := ty, pos := ps, after := af, guard := none } :: rest) ρ I L Q :=
 WL.box (by rw [hx]; rfl) hd next
theorem Val.indexA {l n : Nat} {cs vs : List Value} {k : IntKind} {j : Int} [hk : ArK Γ.P t l true n] (hx : ev ρ x = .agg cs.toArray) (hi : ev ρ y = .int k j) (h0 : 0 ≤ j) (h1 : j < l) (hv : (cs.drop (j.toNat * n)).take n = vs) :
  Val Γ ρ I L (.index t x y) ty (.agg vs.toArray) := fun w hw => by
 obtain ⟨e, hu, he⟩ := ArK.und hk.is
 have hp := run_partA he (cs := cs.toArray) (off := j.toNat * n) w
 have hz : (cs.toArray.extract (j.toNat * n) (j.toNat * n + n)) = vs.toArray := by
  rw [← hv]; apply Array.ext'; simp
 rw [hz] at hp
 simp only [execOp, hx, hi, Instr.index, asIntOf, pure_bind, Sem.run_bind, run_underlying hu, Result.andThen_ok]
 simp only [h0, h1, and_self, if_true, Sem.run_bind, TyK.size he, Result.andThen_ok, hp]
 rfl
theorem Val.loadSS {b off : Nat} {cs : List Value} {v : Value} [hk : TyK Γ.P t false 1] (hx : ev ρ x = .pointer (some ⟨b, off, none⟩)) (h : At I b 0 cs) (hv : cs[off]? = some v) : Val Γ ρ I L (.load t x) ty v := by
 refine Val.loadS hx (Rd.imm ?_)
 have h2 := At.one h hv
 rwa [Nat.zero_add] at h2
theorem WL.callE {f : FuncId} {x : Operand} {args : List Operand} {ats : Array TypeId} {fs cp vs : List Value} {p : Prop} [hf : FnK Γ.P f]
  (hx : ev ρ x = .func (.func f) fs.toArray cp.toArray) (hv : fs ++ args.map (ev ρ) ++ cp = vs) (hc : Ctr Γ.P f vs I [] (Still I (EqP p))) (hd : Nat.blt d Γ.n = true)
  (ht : p → WL Γ ops rest (upd ρ d (.bool true)) I L Q) (hf : ¬ p → WL Γ ops rest (upd ρ d (.bool false)) I L Q) :
  WL Γ ops ({ dst := some d, op := .call { callee := .value x, args := args.toArray, argTypes := ats }, type := ty, pos := ps, after := af, guard := none } :: rest) ρ I L Q :=
 WL.callS hx hv hc hd fun v ⟨b, hb, hp⟩ => by
  subst hb
  cases b
  ·exact hf fun h => by have := hp.2 h; cases this
  ·exact ht (hp.1 rfl)
theorem WL.appAt {e sz by_ n m : Nat} {s x : Operand} {v u : Value} {xs ys zs : List Value} (k : Nat) [hk : SlK Γ.P t e sz] [hz : ZeroK Γ.P e zs] [hb : BytK Γ.P e by_]
  (hs : ev ρ s = v) (hL : L[k]? = some (sl e sz v n xs)) (hx : ev ρ x = u) (hu : SlAt I u m ys) (hy : ys.length = m * sz) (h1 : ys.all Value.oneCell' = true) (hzs : zs.length = sz) (hsz : 0 < sz)
  (hbound : (n + m) * by_ ≤ 140737488355328) (hmax : n + m ≤ maxLen) (hd : Nat.blt d Γ.n = true)
  (next : ∀ aa cap, WL Γ ops rest (upd ρ d (.slice aa (n + m) cap)) I (L.set k (sl e sz (.slice aa (n + m) cap) (n + m) (xs ++ ys))) Q) :
  WL Γ ops ({ dst := some d, op := .call { callee := .builtin .append, args := #[s, x], argTypes := #[t, t] }, type := ty, pos := ps, after := af, guard := none } :: rest) ρ I L Q := by
 obtain ⟨a, cap, rfl, hc, hA⟩ := hu
 rcases Nat.eq_zero_or_pos m with h0 | h0
 ·subst h0
  have hys : ys = [] := List.eq_nil_of_length_eq_zero (by simpa using hy)
  subst hys
  have hset : L.set k (sl e sz v n xs) = L := by
   apply List.ext_getElem?
   intro j
   rw [List.getElem?_set]
   split
   ·rename_i hj
    subst hj
    split
    ·exact hL.symm
    ·rename_i hlt
     rw [List.getElem?_eq_none (by omega)] at hL; cases hL
   ·rfl
  intro ac w ha hw
  have hv : ∃ aa cc, v = .slice aa n cc := by
   obtain ⟨m, hm, h1, h2⟩ := (hw.perm (pull k L _ hL)).head
   rcases h2 with ⟨rfl, rfl⟩ | ⟨g, cap, cur, hv, _⟩
   ·exact ⟨_, _, rfl⟩
   ·exact ⟨_, _, hv⟩
  obtain ⟨aa, cc, rfl⟩ := hv
  refine WL.append0 k hs hL hx hd ?_ ac w ha hw
  have h2 := next aa cc
  simp only [Nat.add_zero, List.append_nil, hset] at h2
  exact h2
 ·rcases hA with ⟨h, _⟩ | ⟨b, off, rfl, hA⟩
  ·omega
  ·exact WL.append k hs hL hx (Rd.imm hA) hy h1 hzs hsz h0 hbound hmax hd fun g cap => next _ _
end
section
variable {Γ : Cx} {ops : Array Oper} {rest : List Oper} {ρ : Nat → Value} {I : Mem} {L : List HP} {Q : Post} {ty : TypeId} {ps : String} {af : Array Edge}
end
end Go.Sl

namespace Go.Sl
section
variable {Γ : Cx} {ops : Array Oper} {rest : List Oper} {ρ : Nat → Value} {I I0 : Mem} {L L0 L' : List HP} {Q : Post} {ty t t' : TypeId} {ps : String} {af : Array Edge} {d : Nat} {x y : Operand} {k : IntKind} {m n : Int} {a : Option Addr} {b z fuel : Nat} {c : Operand} {y' z' : Code}
abbrev jA := @WX.thenC
abbrev jB := @WC.seq
abbrev jC := @WL.nil
abbrev jD := @WC.region
abbrev jR := @WC.ret
abbrev jU := @WX.thenRet
abbrev jV := @WC.skip
abbrev jW := @WL.nApp
abbrev jr1 := @RunRes.r1
abbrev jr2 := @RunRes.r2
abbrev jr3 := @RunRes.r3
abbrev jtI := @ResIs.tmpI
abbrev jtB := @ResIs.tmpB
abbrev jtS := @ResIs.tmpS
abbrev jcL := @ResIs.cellL
theorem jS {id : Nat} {l : List Oper} {y : Code} (h : WL Γ l.toArray l ρ I L (Exit.then (y.wp Γ.P Q) Q)) : WC Γ (.seq (.region id l.toArray false) y) ρ I L Q := WC.seq (WC.region h)
theorem jM {y : Code} (h : WC Γ y ρ I L Q) : WL Γ ops [] ρ I L (Exit.then (y.wp Γ.P Q) Q) := WL.nil (WX.thenC h)
theorem jN {id : Nat} {l : List Oper} {y : Code} (h : WL Γ l.toArray l ρ I L (Exit.then (y.wp Γ.P Q) Q)) : WL Γ ops [] ρ I L (Exit.then ((Code.seq (.region id l.toArray false) y).wp Γ.P Q) Q) := WL.nil (WX.thenC (WC.seq (WC.region h)))
theorem jK {id : Nat} {l : List Oper} {y : Code} (h : WL Γ l.toArray l ρ I L (Exit.then (y.wp Γ.P Q) Q)) : WX Γ .normal ρ I L (Exit.then ((Code.seq (.region id l.toArray false) y).wp Γ.P Q) Q) := WX.thenC (WC.seq (WC.region h))
theorem jE {y z : Code} (h : WC Γ z ρ I L Q) (hc : ev ρ c = .bool false := by rfl) : WC Γ (.cond c y z) ρ I L Q := WC.condF hc h
theorem jF {y z : Code} (h : WC Γ y ρ I L Q) (hc : ev ρ c = .bool true := by rfl) : WC Γ (.cond c y z) ρ I L Q := WC.condT hc h
theorem jG {d : Option Nat} {op : Op} {j t : Nat} {b : Bool} (next : WL Γ ops ({ dst := d, op := op, type := ty, pos := ps, after := af, guard := none } :: rest) ρ I L Q) (hj : (ops[j]?).bind (·.dst) = some t := by exact rfl) (hv : ρ t = .bool b := by exact rfl) :
  WL Γ ops ({ dst := d, op := op, type := ty, pos := ps, after := af, guard := some (j, b) } :: rest) ρ I L Q := WL.gT hj hv next
theorem jH {op : Op} {j t : Nat} {b c : Bool} (next : WL Γ ops rest (upd ρ d undef) I L Q) (hj : (ops[j]?).bind (·.dst) = some t := by exact rfl) (hv : ρ t = .bool c := by exact rfl) (hbc : (c == b) = false := by exact rfl) (hd : Nat.blt d Γ.n = true := by exact rfl) :
  WL Γ ops ({ dst := some d, op := op, type := ty, pos := ps, after := af, guard := some (j, b) } :: rest) ρ I L Q := WL.gF hj hv hbc hd next
theorem jm {op : Op} {v : Value} (h : Val Γ ρ I L op ty v) (next : WL Γ ops rest (upd ρ d v) I L Q) (hd : Nat.blt d Γ.n = true := by exact rfl) : WL Γ ops ({ dst := some d, op := op, type := ty, pos := ps, after := af, guard := none } :: rest) ρ I L Q := WL.val h hd next
theorem ja (h : ev ρ x = .int k m) (next : WL Γ ops rest (upd ρ d (.int k m)) I L Q) (hd : Nat.blt d Γ.n = true := by exact rfl) : WL Γ ops ({ dst := some d, op := .move x, type := ty, pos := ps, after := af, guard := none } :: rest) ρ I L Q := WL.val (Val.moveI h) hd next
theorem jb {q : Bool} (h : ev ρ x = .bool q) (next : WL Γ ops rest (upd ρ d (.bool q)) I L Q) (hd : Nat.blt d Γ.n = true := by exact rfl) : WL Γ ops ({ dst := some d, op := .move x, type := ty, pos := ps, after := af, guard := none } :: rest) ρ I L Q := WL.val (Val.moveB h) hd next
theorem jc {p q : Nat} (h : ev ρ x = .slice a p q) (next : WL Γ ops rest (upd ρ d (.slice a p q)) I L Q) (hd : Nat.blt d Γ.n = true := by exact rfl) : WL Γ ops ({ dst := some d, op := .move x, type := ty, pos := ps, after := af, guard := none } :: rest) ρ I L Q := WL.val (Val.moveS h) hd next
theorem jd (h : ev ρ x = .pointer a) (next : WL Γ ops rest (upd ρ d (.pointer a)) I L Q) (hd : Nat.blt d Γ.n = true := by exact rfl) : WL Γ ops ({ dst := some d, op := .move x, type := ty, pos := ps, after := af, guard := none } :: rest) ρ I L Q := WL.val (Val.moveP h) hd next
theorem je {q : Array Value} (h : ev ρ x = .tuple q) (next : WL Γ ops rest (upd ρ d (.tuple q)) I L Q) (hd : Nat.blt d Γ.n = true := by exact rfl) : WL Γ ops ({ dst := some d, op := .move x, type := ty, pos := ps, after := af, guard := none } :: rest) ρ I L Q := WL.val (Val.moveT h) hd next
theorem jf (h : ev ρ x = .int k m) (next : WL Γ ops rest (upd ρ d (.int k m)) I L Q) (hd : Nat.blt d Γ.n = true := by exact rfl) : WL Γ ops ({ dst := some d, op := .assign x, type := ty, pos := ps, after := af, guard := none } :: rest) ρ I L Q := WL.val (Val.assignI h) hd next
theorem jg {q : Bool} (h : ev ρ x = .bool q) (next : WL Γ ops rest (upd ρ d (.bool q)) I L Q) (hd : Nat.blt d Γ.n = true := by exact rfl) : WL Γ ops ({ dst := some d, op := .assign x, type := ty, pos := ps, after := af, guard := none } :: rest) ρ I L Q := WL.val (Val.assignB h) hd next
theorem jh {p q : Nat} (h : ev ρ x = .slice a p q) (next : WL Γ ops rest (upd ρ d (.slice a p q)) I L Q) (hd : Nat.blt d Γ.n = true := by exact rfl) : WL Γ ops ({ dst := some d, op := .assign x, type := ty, pos := ps, after := af, guard := none } :: rest) ρ I L Q := WL.val (Val.assignS h) hd next
theorem ji (h : ev ρ x = .pointer a) (next : WL Γ ops rest (upd ρ d (.pointer a)) I L Q) (hd : Nat.blt d Γ.n = true := by exact rfl) : WL Γ ops ({ dst := some d, op := .assign x, type := ty, pos := ps, after := af, guard := none } :: rest) ρ I L Q := WL.val (Val.assignP h) hd next
theorem jk {q : Bool} (h : ev ρ c = .bool q) (next : WL Γ ops rest (upd ρ d (bif q then ev ρ x else ev ρ y)) I L Q) (hd : Nat.blt d Γ.n = true := by exact rfl) : WL Γ ops ({ dst := some d, op := .pick c x y, type := ty, pos := ps, after := af, guard := none } :: rest) ρ I L Q := WL.val (Val.pick h) hd next
theorem jl {q : Bool} (h : ev ρ x = .bool q) (next : WL Γ ops rest (upd ρ d (.bool (!q))) I L Q) (hd : Nat.blt d Γ.n = true := by exact rfl) : WL Γ ops ({ dst := some d, op := .unOp .not t x, type := ty, pos := ps, after := af, guard := none } :: rest) ρ I L Q := WL.val (Val.not h) hd next
abbrev jn := @Val.fldAddr
abbrev jo := @Val.len
abbrev jr := @Val.nilCheckP
abbrev jt := @Val.ldO
abbrev jq := @Val.extractI
theorem jp {b off bt : Nat} {cs : List Value} {v : Value} (k : Nat) [hk : TyK Γ.P t false 1] (hx : ev ρ x = .pointer (some ⟨b, off, none⟩)) (hL : L[k]? = some (Sl.box b bt cs)) (hv : cs[off]? = some v) : Val Γ ρ I L (.load t x) ty v := Val.loadS hx (Rd.own1 k hL hv)
theorem jZ {t e b off len cap : Nat} {n : Nat} {x i : Operand} {k : IntKind} {j : Int} [hk : SlK Γ.P t e n] (hx : ev ρ x = .slice (some ⟨b, off, none⟩) len cap) (hi : ev ρ i = .int k j) (h0 : 0 ≤ j := by omega) (h1 : j < len := by omega) : Val Γ ρ I L (.indexAddr t x i) ty (.pointer (some ⟨b, off + j.toNat * n, none⟩)) := Val.indexAddr hx hi h0 h1
theorem jv (hx : ev ρ x = .int k m) (hy : ev ρ y = .int k n) (next : WL Γ ops rest (upd ρ d (.bool false)) I L Q) (h : m ≠ n := by omega) (hd : Nat.blt d Γ.n = true := by exact rfl) : WL Γ ops ({ dst := some d, op := .binOp .eql t x y t', type := ty, pos := ps, after := af, guard := none } :: rest) ρ I L Q := WL.val (Val.eql hx hy (beq_eq_false_iff_ne.2 h)) hd next
theorem jw (hx : ev ρ x = .int k m) (hy : ev ρ y = .int k n) (next : WL Γ ops rest (upd ρ d (.bool true)) I L Q) (h : m = n := by omega) (hd : Nat.blt d Γ.n = true := by exact rfl) : WL Γ ops ({ dst := some d, op := .binOp .eql t x y t', type := ty, pos := ps, after := af, guard := none } :: rest) ρ I L Q := WL.val (Val.eql hx hy (beq_iff_eq.2 h)) hd next
theorem jz (hx : ev ρ x = .int k m) (hy : ev ρ y = .int k n) (next : WL Γ ops rest (upd ρ d (.bool false)) I L Q) (h : m = n := by omega) (hd : Nat.blt d Γ.n = true := by exact rfl) : WL Γ ops ({ dst := some d, op := .binOp .neq t x y t', type := ty, pos := ps, after := af, guard := none } :: rest) ρ I L Q := WL.val (Val.neq hx hy (bne_eq_false_iff_eq.2 h)) hd next
theorem jJ (hx : ev ρ x = .int k m) (hy : ev ρ y = .int k n) (next : WL Γ ops rest (upd ρ d (.bool true)) I L Q) (h : m ≠ n := by omega) (hd : Nat.blt d Γ.n = true := by exact rfl) : WL Γ ops ({ dst := some d, op := .binOp .neq t x y t', type := ty, pos := ps, after := af, guard := none } :: rest) ρ I L Q := WL.val (Val.neq hx hy (bne_iff_ne.2 h)) hd next
theorem jx (hx : ev ρ x = .int k m) (hy : ev ρ y = .int k n) (next : WL Γ ops rest (upd ρ d (.bool false)) I L Q) (h : ¬ m < n := by omega) (hd : Nat.blt d Γ.n = true := by exact rfl) : WL Γ ops ({ dst := some d, op := .binOp .lss t x y t', type := ty, pos := ps, after := af, guard := none } :: rest) ρ I L Q := WL.val (Val.lss hx hy (decide_eq_false h)) hd next
theorem jy (hx : ev ρ x = .int k m) (hy : ev ρ y = .int k n) (next : WL Γ ops rest (upd ρ d (.bool true)) I L Q) (h : m < n := by omega) (hd : Nat.blt d Γ.n = true := by exact rfl) : WL Γ ops ({ dst := some d, op := .binOp .lss t x y t', type := ty, pos := ps, after := af, guard := none } :: rest) ρ I L Q := WL.val (Val.lss hx hy (decide_eq_true h)) hd next
theorem jL (hx : ev ρ x = .int k m) (hy : ev ρ y = .int k n) (next : WL Γ ops rest (upd ρ d (.bool false)) I L Q) (h : ¬ n < m := by omega) (hd : Nat.blt d Γ.n = true := by exact rfl) : WL Γ ops ({ dst := some d, op := .binOp .gtr t x y t', type := ty, pos := ps, after := af, guard := none } :: rest) ρ I L Q := WL.val (Val.gtr hx hy (decide_eq_false h)) hd next
theorem jO (hx : ev ρ x = .int k m) (hy : ev ρ y = .int k n) (next : WL Γ ops rest (upd ρ d (.bool true)) I L Q) (h : n < m := by omega) (hd : Nat.blt d Γ.n = true := by exact rfl) : WL Γ ops ({ dst := some d, op := .binOp .gtr t x y t', type := ty, pos := ps, after := af, guard := none } :: rest) ρ I L Q := WL.val (Val.gtr hx hy (decide_eq_true h)) hd next
theorem jX (hx : ev ρ x = .int .i64 m) (hy : ev ρ y = .int .i64 n) (next : WL Γ ops rest (upd ρ d (.int .i64 (m + n))) I L Q) (h1 : -9223372036854775808 ≤ m + n := by omega) (h2 : m + n ≤ 9223372036854775807 := by omega) (hd : Nat.blt d Γ.n = true := by exact rfl) : WL Γ ops ({ dst := some d, op := .binOp .add t x y t', type := ty, pos := ps, after := af, guard := none } :: rest) ρ I L Q := WL.val (Val.add hx hy (wrap_i64 h1 h2)) hd next
def GOk (ops : Array Oper) (ρ : Nat → Value) : Option (Nat × Bool) → Prop
 | none => True
 | some (j, b) => ∃ t, (ops[j]?).bind (·.dst) = some t ∧ ρ t = .bool b
theorem takeG [hq : PF Q] {op : Op} {v : Value} {g : Option (Nat × Bool)} {listed : Array Bool} {i : Nat} (hi : ops[i]? = some { dst := some d, op := op, type := ty, pos := ps, after := af, guard := g }) (hS : ∀ w, Sat Γ.E w I L → Sat Γ.E w I0 L0) (hv : Val Γ ρ I0 L0 op ty v)
  (next : WA Γ ops Q z I0 L0 fuel (listed.setIfInBounds i true) (upd ρ d v) I L) (hs : canTake ops listed z i = true) (hw : GOk ops ρ g) (hd : Nat.blt d Γ.n = true) : WA Γ ops Q z I0 L0 (fuel + 1) listed ρ I L := by
 cases g with
 | none => exact WA.take i hi hs rfl hS hv hd next
 | some p =>
  obtain ⟨j, b⟩ := p
  obtain ⟨t, hj, hb⟩ := hw
  exact WA.takeGT i hi hs rfl hS hj hb hv hd next
def WB (Γ : Cx) (ops : Array Oper) (Q : Post) (z : Nat) (I0 : Mem) (L0 : List HP) (fuel : Nat) (listed : Array Bool) (ρ : Nat → Value) (I : Mem) (L : List HP) : Prop := (∀ w, Sat Γ.E w I L → Sat Γ.E w I0 L0) → WA Γ ops Q z I0 L0 fuel listed ρ I L
theorem jT [hq : PF Q] {op : Op} {v : Value} {g : Option (Nat × Bool)} {listed : Array Bool} (i : Nat) (hi : ops[i]? = some { dst := some d, op := op, type := ty, pos := ps, after := af, guard := g }) (hv : Val Γ ρ I0 L0 op ty v)
  (next : WB Γ ops Q z I0 L0 fuel (listed.setIfInBounds i true) (upd ρ d v) I L) (hs : canTake ops listed z i = true := by kernel_rfl) (hw : GOk ops ρ g := by first | exact trivial | exact ⟨_, rfl, rfl⟩) (hd : Nat.blt d Γ.n = true := by exact rfl) : WB Γ ops Q z I0 L0 (fuel + 1) listed ρ I L :=
 fun hS => takeG hi hS hv (next hS) hs hw hd
theorem jI [hq : PF Q] {op : Op} {j t : Nat} {b c : Bool} {listed : Array Bool} (i : Nat) (hi : ops[i]? = some { dst := some d, op := op, type := ty, pos := ps, after := af, guard := some (j, b) })
  (next : WB Γ ops Q z I0 L0 fuel (listed.setIfInBounds i true) (upd ρ d undef) I L) (hj : (ops[j]?).bind (·.dst) = some t := by exact rfl) (hb : ρ t = .bool c := by exact rfl) (hcb : (c == b) = false := by exact rfl) (hs : canTake ops listed z i = true := by kernel_rfl) (hd : Nat.blt d Γ.n = true := by exact rfl) : WB Γ ops Q z I0 L0 (fuel + 1) listed ρ I L :=
 fun hS => WA.takeGF i hi hs rfl hS hj hb hcb hd (next hS)
theorem jY [hq : PF Q] {op : Op} {j t : Nat} {b : Bool} {listed : Array Bool} (i : Nat) (hi : ops[i]? = some { dst := some d, op := op, type := ty, pos := ps, after := af, guard := some (j, b) })
  (next : WB Γ ops Q z I0 L0 fuel (listed.setIfInBounds i true) (upd ρ d undef) I L) (hj : (ops[j]?).bind (·.dst) = some t := by exact rfl) (hb : ρ t = undef := by exact rfl) (hs : canTake ops listed z i = true := by kernel_rfl) (hd : Nat.blt d Γ.n = true := by exact rfl) : WB Γ ops Q z I0 L0 (fuel + 1) listed ρ I L :=
 fun hS => WA.takeGU i hi hs rfl hS hj hb hd (next hS)
theorem j5 {dd : Option Nat} {op : Op} {g : Option (Nat × Bool)} {listed : Array Bool} (i : Nat) (hi : ops[i]? = some { dst := dd, op := op, type := ty, pos := ps, after := af, guard := g })
  (h : WL Γ ops [{ dst := dd, op := op, type := ty, pos := ps, after := af, guard := g }] ρ I L (Exit.then (WAK Γ ops Q z i I0 L0 fuel (listed.setIfInBounds i true)) Q)) (hr : Region.ready .any ops listed = [i] := by kernel_rfl) : WB Γ ops Q z I0 L0 (fuel + 1) listed ρ I L := fun _ => WA.eff1 hr hi rfl h
theorem j6 {listed : Array Bool} (h : WX Γ .normal ρ I L Q) (hr : Region.ready .any ops listed = [] := by kernel_rfl) : WB Γ ops Q z I0 L0 fuel listed ρ I L := fun _ => WA.done hr h
theorem j7 {i : Nat} {l' : Array Bool} {Lr : List HP} (ks : List Nat) (hp : picks ks L = some (L0, Lr)) (h : WB Γ ops Q z I L0 fuel l' ρ I L) : WX Γ .normal ρ I L (Exit.then (WAK Γ ops Q z i I L0 fuel l') Q) := WK.anyStep (fun w h => h.sub ks hp) (h fun w h => h.sub ks hp)
theorem j9 {i : Nat} {l' : Array Bool} {Lr : List HP} (ks : List Nat) (hI : I0.le I) (hp : picks ks L = some (L0, Lr)) (h : WB Γ ops Q z I0 L0 fuel l' ρ I L) : WX Γ .normal ρ I L (Exit.then (WAK Γ ops Q z i I0 L0 fuel l') Q) := WK.anyStep (fun w h => (h.sub ks hp).less hI) (h fun w h => (h.sub ks hp).less hI)
theorem j8 {id : Nat} {Lr : List HP} (z : Nat) (ks : List Nat) (hp : picks ks L = some (L0, Lr)) (h : WB Γ ops Q z I L0 ops.size (Array.replicate ops.size false) ρ I L) (hm : Γ.P.follows .mixedOrders = true := by kernel_rfl) : WC Γ (.region id ops true) ρ I L Q := WC.drawK z I ks hp hm rfl rfl (h fun w h => h.sub ks hp)
theorem ju3 {c : Code} {t1 t2 t3 : Nat} {v1 v2 v3 : Value} (h1 : ρ t1 = v1) (h2 : ρ t2 = v2) (h3 : ρ t3 = v3) (next : WC Γ c (upd (upd (upd ρ t1 v1) t2 v2) t3 v3) I L Q) : WC Γ c ρ I L Q := by rwa [upd_self h1, upd_self h2, upd_self h3] at next
theorem ju4 {c : Code} {t1 t2 t3 t4 : Nat} {v1 v2 v3 v4 : Value} (h1 : ρ t1 = v1) (h2 : ρ t2 = v2) (h3 : ρ t3 = v3) (h4 : ρ t4 = v4) (next : WC Γ c (upd (upd (upd (upd ρ t1 v1) t2 v2) t3 v3) t4 v4) I L Q) : WC Γ c ρ I L Q := by rwa [upd_self h1, upd_self h2, upd_self h3, upd_self h4] at next
theorem ju5 {c : Code} {t1 t2 t3 t4 t5 : Nat} {v1 v2 v3 v4 v5 : Value} (h1 : ρ t1 = v1) (h2 : ρ t2 = v2) (h3 : ρ t3 = v3) (h4 : ρ t4 = v4) (h5 : ρ t5 = v5) (next : WC Γ c (upd (upd (upd (upd (upd ρ t1 v1) t2 v2) t3 v3) t4 v4) t5 v5) I L Q) : WC Γ c ρ I L Q := by rwa [upd_self h1, upd_self h2, upd_self h3, upd_self h4, upd_self h5] at next
theorem ju6 {c : Code} {t1 t2 t3 t4 t5 t6 : Nat} {v1 v2 v3 v4 v5 v6 : Value} (h1 : ρ t1 = v1) (h2 : ρ t2 = v2) (h3 : ρ t3 = v3) (h4 : ρ t4 = v4) (h5 : ρ t5 = v5) (h6 : ρ t6 = v6) (next : WC Γ c (upd (upd (upd (upd (upd (upd ρ t1 v1) t2 v2) t3 v3) t4 v4) t5 v5) t6 v6) I L Q) : WC Γ c ρ I L Q := by rwa [upd_self h1, upd_self h2, upd_self h3, upd_self h4, upd_self h5, upd_self h6] at next
theorem ju7 {c : Code} {t1 t2 t3 t4 t5 t6 t7 : Nat} {v1 v2 v3 v4 v5 v6 v7 : Value} (h1 : ρ t1 = v1) (h2 : ρ t2 = v2) (h3 : ρ t3 = v3) (h4 : ρ t4 = v4) (h5 : ρ t5 = v5) (h6 : ρ t6 = v6) (h7 : ρ t7 = v7) (next : WC Γ c (upd (upd (upd (upd (upd (upd (upd ρ t1 v1) t2 v2) t3 v3) t4 v4) t5 v5) t6 v6) t7 v7) I L Q) : WC Γ c ρ I L Q := by rwa [upd_self h1, upd_self h2, upd_self h3, upd_self h4, upd_self h5, upd_self h6, upd_self h7] at next
theorem ju8 {c : Code} {t1 t2 t3 t4 t5 t6 t7 t8 : Nat} {v1 v2 v3 v4 v5 v6 v7 v8 : Value} (h1 : ρ t1 = v1) (h2 : ρ t2 = v2) (h3 : ρ t3 = v3) (h4 : ρ t4 = v4) (h5 : ρ t5 = v5) (h6 : ρ t6 = v6) (h7 : ρ t7 = v7) (h8 : ρ t8 = v8) (next : WC Γ c (upd (upd (upd (upd (upd (upd (upd (upd ρ t1 v1) t2 v2) t3 v3) t4 v4) t5 v5) t6 v6) t7 v7) t8 v8) I L Q) : WC Γ c ρ I L Q := by rwa [upd_self h1, upd_self h2, upd_self h3, upd_self h4, upd_self h5, upd_self h6, upd_self h7, upd_self h8] at next
theorem ju10 {c : Code} {t1 t2 t3 t4 t5 t6 t7 t8 t9 t10 : Nat} {v1 v2 v3 v4 v5 v6 v7 v8 v9 v10 : Value} (h1 : ρ t1 = v1) (h2 : ρ t2 = v2) (h3 : ρ t3 = v3) (h4 : ρ t4 = v4) (h5 : ρ t5 = v5) (h6 : ρ t6 = v6) (h7 : ρ t7 = v7) (h8 : ρ t8 = v8) (h9 : ρ t9 = v9) (h10 : ρ t10 = v10) (next : WC Γ c (upd (upd (upd (upd (upd (upd (upd (upd (upd (upd ρ t1 v1) t2 v2) t3 v3) t4 v4) t5 v5) t6 v6) t7 v7) t8 v8) t9 v9) t10 v10) I L Q) : WC Γ c ρ I L Q := by rwa [upd_self h1, upd_self h2, upd_self h3, upd_self h4, upd_self h5, upd_self h6, upd_self h7, upd_self h8, upd_self h9, upd_self h10] at next
theorem jee {d1 d2 : Option Nat} {op1 op2 : Op} {ty1 ty2 : TypeId} {ps1 ps2 : String} {af1 af2 : Array Edge} {g1 g2 : Option (Nat × Bool)} {listed : Array Bool} (i j : Nat) (hi : ops[i]? = some { dst := d1, op := op1, type := ty1, pos := ps1, after := af1, guard := g1 }) (hj : ops[j]? = some { dst := d2, op := op2, type := ty2, pos := ps2, after := af2, guard := g2 })
  (h1 : WL Γ ops [{ dst := d1, op := op1, type := ty1, pos := ps1, after := af1, guard := g1 }] ρ I L (Exit.then (WAK Γ ops Q z i I0 L0 fuel (listed.setIfInBounds i true)) Q)) (h2 : WL Γ ops [{ dst := d2, op := op2, type := ty2, pos := ps2, after := af2, guard := g2 }] ρ I L (Exit.then (WAK Γ ops Q z j I0 L0 fuel (listed.setIfInBounds j true)) Q)) (hr : Region.ready .any ops listed = [i, j] := by kernel_rfl) :
  WB Γ ops Q z I0 L0 (fuel + 1) listed ρ I L := fun _ => WA.eff2 hr hi hj rfl rfl h1 h2
theorem jCf {id d2 : Nat} {ty2 : TypeId} {ps2 : String} {af2 : Array Edge} {u w : Code} (hx : ev ρ x = .int k m) (hy : ev ρ y = .int k n) (next : WC Γ w (upd (upd ρ d (.bool false)) d2 (.bool false)) I L Q) (h : m ≠ n := by omega) (hd : Nat.blt d Γ.n = true := by exact rfl) (hd2 : Nat.blt d2 Γ.n = true := by exact rfl) :
  WC Γ (.seq (.region id #[{ dst := some d, op := .binOp .eql t x y t', type := ty, pos := ps, after := af, guard := none }, { dst := some d2, op := .assign (.tmp d), type := ty2, pos := ps2, after := af2, guard := none }] false) (.cond (.tmp d2) u w)) ρ I L Q :=
 jS (jv hx hy (jg (q := false) (by show upd ρ d _ d = _; simp [upd, Nat.beq_refl]) (jM (jE next (by show upd _ d2 _ d2 = _; simp [upd, Nat.beq_refl]))) hd2) h hd)
theorem jP {fn : Func} {F : HP} {Lr : List HP} {v : Value} {R : Value → Mem → List HP → Prop} (ks : List Nat) (hres : RunRes Γ fn ρ I L v) [hp : PickL (0 :: ks) L (F :: L') Lr] (hR : R v I L') (hI : I0.le I := by first | exact Mem.le.refl _ | assumption) (hds : Γ.ds = [] := by rfl) :
  WX Γ .ret ρ I L (bodyPost Γ.P fn (FnPost Γ.E F I0 R)) := WX.doneP hres ks hI hR hds
end
end Go.Sl

namespace Go.Sl
open Go.RowKit
def heapOf (W : World) : Mem := fun b => W.heap[b]?
theorem Ctr.calls {P : Program} {f : FuncId} {args : List Value} {W : World} {R : Value → Mem → List HP → Prop} (h : Ctr P f args (heapOf W) [] R) :
  Calls P f args.toArray W fun e w' => ∃ v I' L', e = .returned v ∧ Below W.heap.size W w' ∧ R v I' L' := by
 refine (h ⟨W.tape, W.os, W.output⟩ W (fun _ => True) ⟨rfl, rfl, rfl, fun b o hb => hb, fun _ => none, fun _ _ hb => (by cases hb), fun b => .inr rfl, fun _ => none, fun _ => none, fun _ _ hb => hb, fun _ _ hb => hb, fun _ => .inl rfl, trivial, trivial⟩).mono ?_
 rintro e w' ⟨v, I', L', he, hI, hw, hR⟩
 have key : ∀ k, k < W.heap.size → w'.heap[k]? = W.heap[k]? := fun k hk => by
  have h1 : W.heap[k]? = some W.heap[k] := Array.getElem?_eq_getElem hk
  rw [h1]
  exact hw.imm k _ (hI k _ h1)
 refine ⟨v, I', L', he, ⟨hw.os, hw.tape, hw.output, ?_, key⟩, hR⟩
 rcases Nat.eq_zero_or_pos W.heap.size with h0 | h0
 ·omega
 ·have h1 := key (W.heap.size - 1) (by omega)
  have h2 : W.heap[W.heap.size - 1]? = some W.heap[W.heap.size - 1] := Array.getElem?_eq_getElem (by omega)
  rw [h2] at h1
  have := (Array.getElem?_eq_some_iff.1 h1).1
  omega
end Go.Sl

namespace Go.Sl
open Go.RowKit Go.ChangeShapes Go.WideShapes
section
variable {H : Type} {enc : TypeId × Value → H} {P : Program} {W : World} {t e : TypeId} {cs : List Value}
def TrodOk (enc : TypeId × Value → H) (P : Program) (W : World) (t : TypeId) (cs : List Value) : Prop := ∃ fuel x, DataW.trod enc P W 0 (fun _ => true) true fuel t cs = some x
theorem TrodOk.of {v : Value} {d : DataW H} {ps : List MemPlace} (h : DataW.Trod enc P W 0 (fun _ => true) true t v d ps) : TrodOk enc P W t v.cells.toList := by
 obtain ⟨f, h⟩ := h; exact ⟨f, _, h⟩
theorem TrodOk.int {k : IntKind} (h : TrodOk enc P W t cs) (ht : P.underlying t = some (.int k)) : ∃ n, cs = [.int k n] ∧ k.min ≤ n ∧ n ≤ k.max := by
 obtain ⟨f, x, h⟩ := h
 obtain ⟨n, hc, _, hw⟩ := DataW.trod_int ht h
 simp [Lit.wf] at hw
 exact ⟨n, hc, hw⟩
end
end Go.Sl

namespace Go.Ls
open Go.Sl
abbrev vi (n : Int) : Value := .int .i64 n
abbrev ptr (b : Nat) : Value := .pointer (some ⟨b, 0, none⟩)
def I64 (n : Int) : Prop := -9223372036854775808 ≤ n ∧ n ≤ 9223372036854775807
def All2 {α β : Type} (R : α → β → Prop) : List α → List β → Prop
 | [], [] => True
 | a :: l, b :: r => R a b ∧ All2 R l r
 | _, _ => False
theorem All2.imp {α β : Type} {R S : α → β → Prop} (h : ∀ a b, R a b → S a b) : ∀ {l : List α} {r : List β}, All2 R l r → All2 S l r
 | [], [], _ => trivial
 | _ :: _, _ :: _, ⟨h1, h2⟩ => ⟨h _ _ h1, All2.imp h h2⟩
 | [], _ :: _, hh => hh.elim
 | _ :: _, [], hh => hh.elim
theorem All2.snoc {α β : Type} {R : α → β → Prop} {a : α} {b : β} (h : R a b) : ∀ {l : List α} {r : List β}, All2 R l r → All2 R (l ++ [a]) (r ++ [b])
 | [], [], _ => ⟨h, trivial⟩
 | _ :: _, _ :: _, ⟨h1, h2⟩ => ⟨h1, All2.snoc h h2⟩
 | [], _ :: _, hh => hh.elim
 | _ :: _, [], hh => hh.elim
theorem All2.app {α β : Type} {R : α → β → Prop} : ∀ {l : List α} {r : List β} {l' : List α} {r' : List β}, All2 R l r → All2 R l' r' → All2 R (l ++ l') (r ++ r')
 | [], [], _, _, _, h => h
 | _ :: _, _ :: _, _, _, ⟨h1, h2⟩, h => ⟨h1, All2.app h2 h⟩
 | [], _ :: _, _, _, hh, _ => hh.elim
 | _ :: _, [], _, _, hh, _ => hh.elim
theorem All2.len {α β : Type} {R : α → β → Prop} : ∀ {l : List α} {r : List β}, All2 R l r → l.length = r.length
 | [], [], _ => rfl
 | _ :: _, _ :: _, ⟨_, h⟩ => by rw [List.length_cons, List.length_cons, h.len]
 | [], _ :: _, hh => hh.elim
 | _ :: _, [], hh => hh.elim
abbrev Rep (α : Type) := Mem → α → List Value → Prop
def LsAt {α : Type} (R : Rep α) (I : Mem) (l : List α) (v : Value) : Prop := ∃ css, SlAt I v l.length css.flatten ∧ All2 (R I) l css
class RepMono {α : Type} (R : Rep α) : Prop where
 mono : ∀ {I I' : Mem} {x : α} {cs : List Value}, R I x cs → I.le I' → R I' x cs
theorem LsAt.mono {α : Type} {R : Rep α} [hR : RepMono R] {I I' : Mem} {l : List α} {v : Value} (h : LsAt R I l v) (hI : I.le I') : LsAt R I' l v := by
 obtain ⟨css, h1, h2⟩ := h
 exact ⟨css, h1.mono hI, h2.imp fun a b h => hR.mono h hI⟩
theorem LsAt.nil {α : Type} (R : Rep α) (I : Mem) : LsAt R I [] (.slice none 0 0) := ⟨[], SlAt.nil I, trivial⟩
theorem LsAt.sl {α : Type} {R : Rep α} {I : Mem} {l : List α} {v : Value} (h : LsAt R I l v) : ∃ a cap, v = .slice a l.length cap := by
 obtain ⟨css, ⟨a, cap, hv, _⟩, _⟩ := h
 exact ⟨a, cap, hv⟩
theorem LsAt.le {α : Type} {R : Rep α} {I : Mem} {l : List α} {v : Value} (h : LsAt R I l v) : l.length ≤ 9223372036854775807 := by
 obtain ⟨css, h1, _⟩ := h
 exact h1.le
class RepLen {α : Type} (R : Rep α) (sz : outParam Nat) : Prop where
 len : ∀ {I : Mem} {x : α} {cs : List Value}, R I x cs → cs.length = sz
theorem flat_get {α : Type} {R : α → List Value → Prop} {sz : Nat} (hlen : ∀ x cs, R x cs → cs.length = sz) : ∀ {l : List α} {css : List (List Value)} (h : All2 R l css) (k : Nat) (hk : k < l.length),
  ∃ cs, R l[k] cs ∧ (css.flatten.drop (k * sz)).take sz = cs
 | [], _, _, k, hk => by simp at hk
 | x :: l, [], h, k, hk => h.elim
 | x :: l, cs :: css, ⟨h1, h2⟩, 0, hk => ⟨cs, h1, by simp [← hlen x cs h1]⟩
 | x :: l, cs :: css, ⟨h1, h2⟩, k + 1, hk => by
  obtain ⟨cs', hR, hd⟩ := flat_get hlen h2 k (by simpa using hk)
  refine ⟨cs', hR, ?_⟩
  rw [List.flatten_cons, show (k + 1) * sz = cs.length + k * sz by rw [hlen x cs h1, Nat.add_mul, Nat.one_mul, Nat.add_comm], ← List.drop_drop, List.drop_left]
  exact hd
theorem LsAt.get {α : Type} {R : Rep α} {sz : Nat} [hL : RepLen R sz] {I : Mem} {l : List α} {v : Value} (h : LsAt R I l v) (k : Nat) (hk : k < l.length) :
  ∃ b off cap cs, v = .slice (some ⟨b, off, none⟩) l.length cap ∧ R I l[k] cs ∧ At I b (off + (k : Int).toNat * sz) cs := by
 obtain ⟨css, ⟨a, cap, rfl, hc, ⟨h0, _⟩ | ⟨b, off, rfl, hA⟩⟩, hall⟩ := h
 ·omega
 ·obtain ⟨cs, hR, hd⟩ := flat_get (fun x cs h => hL.len h) hall k hk
  exact ⟨b, off, cap, cs, rfl, hR, by
   have := (hA.drop (k * sz)).take sz
   rw [hd] at this
   exact this⟩
theorem flat_len {α : Type} {R : Rep α} {sz : Nat} [hL : RepLen R sz] {I : Mem} : ∀ {l : List α} {css : List (List Value)}, All2 (R I) l css → css.flatten.length = l.length * sz
 | [], [], _ => by simp
 | x :: l, cs :: css, ⟨h1, h2⟩ => by rw [List.flatten_cons, List.length_append, hL.len h1, flat_len h2, List.length_cons, Nat.add_mul, Nat.one_mul, Nat.add_comm]
 | [], _ :: _, hh => hh.elim
 | _ :: _, [], hh => hh.elim
theorem LsAt.cap {α : Type} {R : Rep α} {I : Mem} {l : List α} {a : Option Addr} {n cap : Nat} (h : LsAt R I l (.slice a n cap)) : l.length ≤ cap ∧ cap ≤ maxLen := by
 obtain ⟨css, ⟨a, cap, hv, hc, _⟩, _⟩ := h
 injection hv with h1 h2 h3
 subst h3
 exact hc
theorem flat_drop {α : Type} {R : Rep α} {sz : Nat} [hL : RepLen R sz] {I : Mem} : ∀ (k : Nat) {l : List α} {css : List (List Value)}, All2 (R I) l css → (css.drop k).flatten = css.flatten.drop (k * sz) ∧ All2 (R I) (l.drop k) (css.drop k)
 | 0, l, css, h => by simpa using h
 | k + 1, [], [], h => by simp [All2]
 | k + 1, x :: l, cs :: css, ⟨h1, h2⟩ => by
  obtain ⟨e, h3⟩ := flat_drop k h2
  refine ⟨?_, h3⟩
  rw [List.drop_succ_cons, e, List.flatten_cons, show (k + 1) * sz = cs.length + k * sz by rw [hL.len h1, Nat.add_mul, Nat.one_mul, Nat.add_comm], ← List.drop_drop, List.drop_left]
 | _ + 1, [], _ :: _, h => h.elim
 | _ + 1, _ :: _, [], h => h.elim
theorem LsAt.drop {α : Type} {R : Rep α} {sz : Nat} [hL : RepLen R sz] {I : Mem} {l : List α} {b off n cap : Nat} (h : LsAt R I l (.slice (some ⟨b, off, none⟩) n cap)) (k : Nat) (hk : k ≤ l.length) : LsAt R I (l.drop k) (.slice (some ⟨b, off + k * sz, none⟩) (l.length - k) (cap - k)) := by
 obtain ⟨css, ⟨a, cap', hv, hc, hcs⟩, hall⟩ := h
 injection hv with h1 h2 h3
 subst h3
 obtain ⟨e, h4⟩ := flat_drop k hall
 refine ⟨css.drop k, ⟨_, _, by rw [List.length_drop], ⟨by rw [List.length_drop]; omega, by omega⟩, ?_⟩, h4⟩
 rw [e]
 rcases hcs with ⟨h0, h9⟩ | ⟨b', off', he, hA⟩
 ·exact .inl ⟨by rw [List.length_drop, h0, Nat.zero_sub], by rw [h9, List.drop_nil]⟩
 ·rw [he] at h1
  injection h1 with h1
  injection h1 with h1 h5
  subst h1; subst h5
  exact .inr ⟨b, _, rfl, hA.drop _⟩
def Int.rep : Rep Int := fun _ n cs => cs = [vi n] ∧ I64 n
instance : RepMono Int.rep := ⟨fun h _ => h⟩
instance : RepLen Int.rep 1 := ⟨fun h => by rw [h.1]; rfl⟩
def OwnL {α : Type} (R : Rep α) (e sz : Nat) (I : Mem) (l : List α) (v : Value) (p : HP) : Prop := ∃ css, p = sl e sz v l.length css.flatten ∧ All2 (R I) l css
theorem OwnL.mono {α : Type} {R : Rep α} [hR : RepMono R] {e sz : Nat} {I I' : Mem} {l : List α} {v : Value} {p : HP} (h : OwnL R e sz I l v p) (hI : I.le I') : OwnL R e sz I' l v p := by
 obtain ⟨css, h1, h2⟩ := h
 exact ⟨css, h1, h2.imp fun a b h => hR.mono h hI⟩
theorem OwnL.nil {α : Type} (R : Rep α) (e sz : Nat) (I : Mem) : OwnL R e sz I [] (.slice none 0 0) (sl e sz (.slice none 0 0) 0 []) := ⟨[], rfl, trivial⟩
end Go.Ls
namespace Go.Sl
open Go.Ls
section
variable {Γ : Cx} {ops : Array Oper} {rest : List Oper} {ρ : Nat → Value} {I : Mem} {L : List HP} {Q : Post} {ty : TypeId} {ps : String} {af : Array Edge} {d t : Nat}
theorem WX.freezeL {α : Type} {R : Rep α} [hR : RepMono R] {c : Exit} {e sz : Nat} {v : Value} {l : List α} {p : HP} {L' : List HP} (k : Nat) (hL : L[k]? = some p) (hp : OwnL R e sz I l v p) [hE : EraL L k L'] (next : ∀ I', I.le I' → LsAt R I' l v → WX Γ c ρ I' L' Q) : WX Γ c ρ I L Q := by
 obtain ⟨css, rfl, h2⟩ := hp
 exact WX.freeze k hL fun I' hI hA => next I' hI ⟨css, hA, h2.imp fun a b h => hR.mono h hI⟩
theorem WL.freezeL {α : Type} {R : Rep α} [hR : RepMono R] {e sz : Nat} {v : Value} {l : List α} {p : HP} {L' : List HP} (k : Nat) (hL : L[k]? = some p) (hp : OwnL R e sz I l v p) [hE : EraL L k L'] (next : ∀ I', I.le I' → LsAt R I' l v → WL Γ ops rest ρ I' L' Q) : WL Γ ops rest ρ I L Q := by
 obtain ⟨css, rfl, h2⟩ := hp
 exact WL.freeze k hL fun I' hI hA => next I' hI ⟨css, hA, h2.imp fun a b h => hR.mono h hI⟩
theorem WL.appL {α : Type} {R : Rep α} {e sz by_ : Nat} [hRl : RepLen R sz] {s x : Operand} {v u : Value} {l m : List α} {p : HP} {zs : List Value} (k : Nat) [hk : SlK Γ.P t e sz] [hz : ZeroK Γ.P e zs] [hb : BytK Γ.P e by_]
  (hs : ev ρ s = v) (hL : L[k]? = some p) (hp : OwnL R e sz I l v p) (hx : ev ρ x = u) (hu : LsAt R I m u) (h1 : ∀ (x : α) cs, R I x cs → cs.all Value.oneCell' = true) (hzs : zs.length = sz) (hsz : 0 < sz)
  (hbound : (l.length + m.length) * by_ ≤ 140737488355328) (hmax : l.length + m.length ≤ maxLen) (hd : Nat.blt d Γ.n = true)
  (next : ∀ aa cap p', OwnL R e sz I (l ++ m) (.slice aa (l ++ m).length cap) p' → WL Γ ops rest (upd ρ d (.slice aa (l ++ m).length cap)) I (L.set k p') Q) :
  WL Γ ops ({ dst := some d, op := .call { callee := .builtin .append, args := #[s, x], argTypes := #[t, t] }, type := ty, pos := ps, after := af, guard := none } :: rest) ρ I L Q := by
 obtain ⟨css, rfl, h2⟩ := hp
 obtain ⟨dss, hA, h3⟩ := hu
 have hone : ∀ {l : List α} {r : List (List Value)}, All2 (R I) l r → r.flatten.all Value.oneCell' = true := by
  intro l
  induction l with
  | nil => intro r h; cases r with | nil => rfl | cons _ _ => exact h.elim
  | cons a l ih => intro r h; cases r with
   | nil => exact h.elim
   | cons c r => rw [List.flatten_cons, List.all_append, h1 _ _ h.1, ih h.2]; rfl
 refine WL.appAt k hs hL hx hA (Ls.flat_len h3) (hone h3) hzs hsz hbound hmax hd fun aa cap => ?_
 have := next aa cap (sl e sz (.slice aa (l ++ m).length cap) (l ++ m).length (css ++ dss).flatten) ⟨css ++ dss, rfl, h2.app h3⟩
 rw [List.flatten_append, List.length_append] at this
 exact this
theorem WL.appOne {α : Type} {R : Rep α} {e sz by_ bt g : Nat} {s x : Operand} {v : Value} {l : List α} {y : α} {p : HP} {zs cs : List Value} (k j : Nat) [hk : SlK Γ.P t e sz] [hz : ZeroK Γ.P e zs] [hb : BytK Γ.P e by_]
  (hs : ev ρ s = v) (hL : L[k]? = some p) (hp : OwnL R e sz I l v p) (hx : ev ρ x = .slice (some ⟨g, 0, none⟩) 1 1) (hg : L[j]? = some (Sl.box g bt cs)) (hy : R I y cs) (hcl : cs.length = sz) (h1 : cs.all Value.oneCell' = true) (hzs : zs.length = sz) (hsz : 0 < sz)
  (hbound : (l.length + 1) * by_ ≤ 140737488355328) (hmax : l.length + 1 ≤ maxLen) (hd : Nat.blt d Γ.n = true)
  (next : ∀ aa cap p', OwnL R e sz I (l ++ [y]) (.slice aa (l.length + 1) cap) p' → WL Γ ops rest (upd ρ d (.slice aa (l.length + 1) cap)) I (L.set k p') Q) :
  WL Γ ops ({ dst := some d, op := .call { callee := .builtin .append, args := #[s, x], argTypes := #[t, t] }, type := ty, pos := ps, after := af, guard := none } :: rest) ρ I L Q := by
 obtain ⟨css, rfl, h2⟩ := hp
 refine WL.append (ys := cs) k hs hL hx (Rd.ownN sz j hg (by rw [List.drop_zero]; exact List.take_of_length_le (by omega))) (by omega) h1 hzs hsz (by decide) hbound hmax hd fun g2 cap => ?_
 have := next (some ⟨g2, 0, none⟩) cap (sl e sz (.slice (some ⟨g2, 0, none⟩) (l.length + 1) cap) (l ++ [y]).length (css ++ [cs]).flatten) ⟨css ++ [cs], rfl, h2.snoc hy⟩
 rw [List.flatten_append, List.flatten_cons, List.flatten_nil, List.append_nil, List.length_append] at this
 exact this
end
/-! what is owned, is read -/
theorem Sat.slSome {E : Ev} {w : World} {I : Mem} {L : List HP} {e sz n cap : Nat} {aa : Option Addr} {xs : List Value} (k : Nat) (hL : L[k]? = some (sl e sz (.slice aa n cap) n xs)) (hn : 0 < n) (hw : Sat E w I L) : ∃ g, aa = some ⟨g, 0, none⟩ := by
 obtain ⟨m, hm, h1, h2⟩ := (hw.perm (pull k L _ hL)).head
 rcases h2 with ⟨_, h0⟩ | ⟨g, c, cur, hv, _⟩
 ·omega
 ·injection hv with hv; exact ⟨g, hv⟩
section
variable {Γ : Cx} {ops : Array Oper} {rest : List Oper} {ρ : Nat → Value} {I : Mem} {L : List HP} {Q : Post} {ty : TypeId} {ps : String} {af : Array Edge} {d t : Nat}
theorem WC.slSome {c : Code} {e sz n cap : Nat} {aa : Option Addr} {xs : List Value} (k : Nat) (hL : L[k]? = some (sl e sz (.slice aa n cap) n xs)) (hn : 0 < n) (next : ∀ g, aa = some ⟨g, 0, none⟩ → WC Γ c ρ I L Q) : WC Γ c ρ I L Q := fun a w ha hw => by
 obtain ⟨g, h⟩ := hw.slSome k hL hn; exact next g h a w ha hw
theorem WL.slOpen {e sz n : Nat} {v : Value} {xs : List Value} (k : Nat) (hL : L[k]? = some (sl e sz v n xs)) (next : ∀ aa cap, v = .slice aa n cap → WL Γ ops rest ρ I L Q) : WL Γ ops rest ρ I L Q := fun a w ha hw => by
 obtain ⟨m, hm, h1, h2⟩ := (hw.perm (pull k L _ hL)).head
 rcases h2 with ⟨rfl, rfl⟩ | ⟨g, cap, cur, hv, _⟩
 ·exact next _ _ rfl a w ha hw
 ·exact next _ _ hv a w ha hw
theorem Rd.slN {e sz n cap g : Nat} {xs : List Value} (k : Nat) (hL : L[k]? = some (sl e sz (.slice (some ⟨g, 0, none⟩) n cap) n xs)) (off : Nat) (vs : List Value) (hv : ∀ j v, vs[j]? = some v → xs[off + j]? = some v) : Rd I L g off vs := by
 intro E w hw j v hj
 obtain ⟨m, hm, h1, h2⟩ := (hw.perm (pull k L _ hL)).head
 rcases h2 with ⟨h0, _⟩ | ⟨g', c, cur, hv', hg, _, _, _, ht⟩
 ·cases h0
 ·injection hv' with hv'
  injection hv' with hv'
  injection hv' with hv'
  subst hv'
  have hh := hm _ _ hg
  have h3 := hv j v hj
  rw [← ht, List.getElem?_take] at h3
  split at h3
  ·simp only [World.cell?, hh, Option.isSome_none, Bool.false_eq_true, if_false]
   simpa using h3
  ·cases h3
theorem Rd.sl1 {e sz n cap g off : Nat} {xs : List Value} {v : Value} (k : Nat) (hL : L[k]? = some (sl e sz (.slice (some ⟨g, 0, none⟩) n cap) n xs)) (hv : xs[off]? = some v) : Rd I L g off [v] :=
 Rd.slN k hL off [v] fun j u hj => by
  cases j with
  | zero => simp at hj; subst hj; exact hv
  | succ j => simp at hj
theorem WL.appI {g bt : Nat} {s x : Operand} {v : Value} {l : List Int} {i : Int} {zs : List Value} (k j : Nat) [hk : SlK Γ.P t 3 1] [hz : ZeroK Γ.P 3 zs] [hb : BytK Γ.P 3 8]
  (hs : ev ρ s = v) (hL : L[k]? = some (sl 3 1 v l.length (l.map vi))) (hx : ev ρ x = .slice (some ⟨g, 0, none⟩) 1 1) (hg : L[j]? = some (Sl.box g bt [vi i])) (hzs : zs.length = 1) (hl : l.length ≤ 1099511627776) (hd : Nat.blt d Γ.n = true)
  (next : ∀ aa cap, WL Γ ops rest (upd ρ d (.slice aa (l ++ [i]).length cap)) I (L.set k (sl 3 1 (.slice aa (l ++ [i]).length cap) (l ++ [i]).length ((l ++ [i]).map vi))) Q) :
  WL Γ ops ({ dst := some d, op := .call { callee := .builtin .append, args := #[s, x], argTypes := #[t, t] }, type := ty, pos := ps, after := af, guard := none } :: rest) ρ I L Q :=
 WL.append (ys := [vi i]) k hs hL hx (Rd.ownN 1 j hg rfl) rfl rfl hzs (by decide) (by decide) (by omega) (by unfold maxLen; omega) hd fun g2 cap => by
  have := next (some ⟨g2, 0, none⟩) cap
  simp only [List.length_append, List.map_append, List.length_cons, List.length_nil, List.map_cons, List.map_nil] at this
  exact this
theorem Val.sliceFrom {t e n len cap m b off : Nat} {x lo : Operand} [hk : SlK Γ.P t e n] (hx : ev ρ x = .slice (some ⟨b, off, none⟩) len cap) (hl : ev ρ lo = .int .i64 (m : Int)) (h1 : m ≤ len) (h2 : len ≤ cap) (h3 : m < cap) : Val Γ ρ I L (.slice t x (some lo) none none) ty (.slice (some ⟨b, off + m * n, none⟩) (len - m) (cap - m)) := by
 have := Val.slice (Γ := Γ) (I := I) (L := L) (ty := ty) (t := t) (e := e) (n := n) (hk := hk) (l := m) (h := len) hx (.some (e := (m : Int)) hl (Int.natCast_nonneg m)) (.none _) h1 h2
 rw [if_neg (by omega), Option.map_some, addr_add] at this
 exact this
theorem WL.lit {α : Type} {R : Rep α} [hR : RepMono R] {g e sz : Nat} {l : List α} {css : List (List Value)} {L' : List HP} (k : Nat) (hL : L[k]? = some (Sl.box g e css.flatten)) (hall : All2 (R I) l css) (hn : css.flatten.length = l.length * sz) (hm : l.length ≤ maxLen) [hE : EraL L k L']
  (next : ∀ I', I.le I' → LsAt R I' l (.slice (some ⟨g, 0, none⟩) l.length l.length) → WL Γ ops rest ρ I' L' Q) : WL Γ ops rest ρ I L Q := fun a w ha hw => by
 obtain ⟨I', h1, h2, h3⟩ := ((hw.perm (pull k L _ hL)).box_sl (e := e) (sz := sz) hn hm).freezeAt
 rw [hE.is] at h2
 exact next I' h1 ⟨css, h3, hall.imp fun a b h => hR.mono h h1⟩ a w ha h2
end
end Go.Sl

namespace Go.Sl
open Go.Ls Go.MapKept
def MapIs (a : Array MapEntry) (f : Int → Option Value) (n : Nat) : Prop :=
 a.size = n ∧ (∀ e ∈ a.toList, ∃ k, e.key = vi k) ∧ ∀ k v, f k = some v ↔ ∃ e ∈ a.toList, e.key = vi k ∧ e.val = v
def mp (b : Nat) (f : Int → Option Value) (n : Nat) : HP := fun m => ∃ a c, m b = some (.map a c) ∧ Stamped a c ∧ MapIs a f n
def put (f : Int → Option Value) (i : Int) (v : Value) : Int → Option Value := fun k => if k = i then some v else f k
def del (f : Int → Option Value) (i : Int) : Int → Option Value := fun k => if k = i then none else f k
theorem put_same (f : Int → Option Value) (i : Int) (v : Value) : put f i v i = some v := if_pos rfl
theorem put_ne (f : Int → Option Value) {i k : Int} (v : Value) (h : k ≠ i) : put f i v k = f k := if_neg h
theorem del_same (f : Int → Option Value) (i : Int) : del f i i = none := if_pos rfl
theorem del_ne (f : Int → Option Value) {i k : Int} (h : k ≠ i) : del f i k = f k := if_neg h
theorem Sat.mpOpen {E : Ev} {w : World} {I : Mem} {L : List HP} {b n : Nat} {f : Int → Option Value} (k : Nat) (hL : L[k]? = some (mp b f n)) (h : Sat E w I L) : ∃ a c, Stamped a c ∧ MapIs a f n ∧ Sat E w I (L.set k (pt b (.map a c))) := by
 have hp := h.perm (pull k L _ hL)
 obtain ⟨m, a, d, m1, m2, e1, e2, e3, ⟨x, c, hb, h1, h2⟩, e5⟩ := hp.own
 have : Sat E w I (pt b (.map x c) :: L.eraseIdx k) := ⟨hp.tape, hp.os, hp.output, hp.imm, m, a, d, m1, m2, e1, e2, e3, hb, e5⟩
 exact ⟨x, c, h1, h2, this.perm (push_back k L _ _ hL)⟩
theorem Sat.mpClose {E : Ev} {w : World} {I : Mem} {L : List HP} {b n c : Nat} {a : Array MapEntry} {f : Int → Option Value} (k : Nat) (hL : L[k]? = some (pt b (.map a c))) (h1 : Stamped a c) (h2 : MapIs a f n) (h : Sat E w I L) : Sat E w I (L.set k (mp b f n)) := by
 have hp := h.perm (pull k L _ hL)
 obtain ⟨m, x, d, m1, m2, e1, e2, e3, hb, e5⟩ := hp.own
 have : Sat E w I (mp b f n :: L.eraseIdx k) := ⟨hp.tape, hp.os, hp.output, hp.imm, m, x, d, m1, m2, e1, e2, e3, ⟨a, c, hb, h1, h2⟩, e5⟩
 exact this.perm (push_back k L _ _ hL)
def mapk (P : Program) (t : Nat) : Option Value :=
 match P.underlying t with
 | some (.map k e) => match P.underlying k with
  | some (.int .i64) => (P.info? e).bind fun i => i.zero
  | _ => none
 | _ => none
class MapK (P : Program) (t : Nat) (z : outParam Value) : Prop where
 is : mapk P t = some z
theorem MapK.und {P : Program} {t : Nat} {z : Value} (h : mapk P t = some z) : ∃ k e, P.underlying t = some (.map k e) ∧ P.underlying k = some (.int .i64) ∧ ∀ w, (zeroValue e).run P w = .ok z w := by
 unfold mapk at h
 split at h
 ·rename_i k e he
  split at h
  ·rename_i hk
   refine ⟨k, e, he, hk, fun w => ?_⟩
   cases hi : P.info? e with
   | none => rw [hi] at h; cases h
   | some i =>
    rw [hi] at h
    have hz : i.zero = some z := h
    unfold zeroValue
    rw [Sem.run_bind, run_typeInfo w hi]
    simp [hz, Result.andThen]
  ·cases h
 ·cases h
theorem nodup_inj {α : Type} {l : List α} (h : l.Nodup) {i j : Nat} (hi : i < l.length) (hj : j < l.length) (e : l[i] = l[j]) : i = j := by
 rcases Nat.lt_trichotomy i j with q | q | q
 ·exact absurd e (List.pairwise_iff_getElem.1 h i j hi hj q)
 ·exact q
 ·exact absurd e.symm (List.pairwise_iff_getElem.1 h j i hj hi q)
theorem MapIs.key {a : Array MapEntry} {f : Int → Option Value} {n : Nat} (h : MapIs a f n) : ∀ e ∈ a.toList, IsKey (.int .i64) e.key := fun e he => by
 obtain ⟨k, hk⟩ := h.2.1 e he
 rw [hk]
 exact rfl
theorem MapIs.find {a : Array MapEntry} {f : Int → Option Value} {n : Nat} (h : MapIs a f n) (i : Int) :
  (Instr.findNow (.int .i64) (vi i) a.toList 0 = some none ∧ f i = none ∧ ∀ x ∈ a.toList, x.key ≠ vi i) ∨ ∃ j e, Instr.findNow (.int .i64) (vi i) a.toList 0 = some (some (j, e.val)) ∧ a[j]? = some e ∧ e.key = vi i ∧ f i = some e.val := by
 rcases findNow_spec (d := .int .i64) (k := vi i) rfl a.toList 0 h.key with ⟨h1, h2⟩ | ⟨j, e, h1, h2, h3⟩
 ·refine .inl ⟨h1, ?_, h2⟩
  cases hf : f i with
  | none => rfl
  | some v =>
   obtain ⟨e, he, hk, _⟩ := (h.2.2 i v).1 hf
   exact absurd hk (h2 e he)
 ·refine .inr ⟨j, e, by simpa using h1, by simpa using h2, h3, (h.2.2 i _).2 ⟨e, List.mem_of_getElem? h2, h3, rfl⟩⟩
theorem run_look {P : Program} {t b c n : Nat} {z : Value} {a : Array MapEntry} {f : Int → Option Value} (hk : mapk P t = some z) {w : World} (hb : w.heap[b]? = some (.map a c)) (hM : MapIs a f n) (i : Int) (ok : Bool) :
  (Instr.lookup t (.map (some b)) (vi i) ok).run P w = .ok (if ok then .tuple #[(f i).getD z, .bool (f i).isSome] else (f i).getD z) w := by
 obtain ⟨k, e, hm, hd, hz⟩ := MapK.und hk
 rcases hM.find i with ⟨h1, h2, _⟩ | ⟨j, x, h1, _, _, h2⟩
 ·cases ok <;> simp [Instr.lookup, run_underlying hm, MapKept.run_getObj_map hb, run_checkKey (k := vi i) hd rfl, run_findKey hd h1, hz, Result.andThen, h2]
 ·cases ok <;> simp [Instr.lookup, run_underlying hm, MapKept.run_getObj_map hb, run_checkKey (k := vi i) hd rfl, run_findKey hd h1, Result.andThen, h2]
theorem MapIs.put {a : Array MapEntry} {c : Nat} {f : Int → Option Value} {n : Nat} (h : MapIs a f n) (hs : Stamped a c) (i : Int) (v : Value) {P : Program} {t b : Nat} {z : Value} (hk : mapk P t = some z) {w : World} (hb : w.heap[b]? = some (.map a c)) :
  ∃ a' c', (Instr.mapUpdate t (.map (some b)) (vi i) v).run P w = .ok () { w with heap := w.heap.setIfInBounds b (.map a' c') } ∧ Stamped a' c' ∧ MapIs a' (Sl.put f i v) (if (f i).isSome then n else n + 1) := by
 obtain ⟨k, e, hm, hd, hz⟩ := MapK.und hk
 rcases h.find i with ⟨h1, h2, h3⟩ | ⟨j, x, h1, hj, hx, h2⟩
 ·refine ⟨_, _, ?_, stamped_push hs (key := vi i) (val := v) h3, ?_⟩
  ·simp [Instr.mapUpdate, run_underlying hm, MapKept.run_getObj_map hb, run_checkKey (k := vi i) hd rfl, run_findKey hd h1, MapKept.run_setObj_map _ hb, Result.andThen]
  ·refine ⟨by simp [h2, h.1], ?_, ?_⟩
   ·intro x hx
    simp only [Array.toList_push, List.mem_append, List.mem_singleton] at hx
    rcases hx with hx | rfl
    ·exact h.2.1 x hx
    ·exact ⟨i, rfl⟩
   ·intro k' u
    simp only [Array.toList_push, List.mem_append, List.mem_singleton]
    by_cases hki : k' = i
    ·subst hki
     rw [put_same]
     constructor
     ·intro hu; injection hu with hu; subst hu
      exact ⟨_, .inr rfl, rfl, rfl⟩
     ·rintro ⟨x, hx | rfl, h4, h5⟩
      ·exact absurd h4 (h3 x hx)
      ·rw [← h5]
    ·rw [put_ne _ _ hki, h.2.2]
     constructor
     ·rintro ⟨x, hx, h4, h5⟩; exact ⟨x, .inl hx, h4, h5⟩
     ·rintro ⟨x, hx | rfl, h4, h5⟩
      ·exact ⟨x, hx, h4, h5⟩
      ·injection h4 with _ h4; exact absurd h4.symm hki
 ·have hkey : ∀ e', a[j]? = some e' → ({ e' with key := vi i, val := v } : MapEntry).key = e'.key := fun e' he' => by rw [hj] at he'; cases he'; exact hx.symm
  have hmem : ∀ y, y ∈ (a.modify j fun e => { e with key := vi i, val := v }).toList ↔ ∃ q, (if j = q then (a[q]?).map (fun e => ({ e with key := vi i, val := v } : MapEntry)) else a[q]?) = some y := fun y => by
   rw [List.mem_iff_getElem?]
   simp only [Array.getElem?_toList, Array.getElem?_modify]
  have hal : ∀ y, y ∈ a.toList ↔ ∃ q, a[q]? = some y := fun y => by
   rw [List.mem_iff_getElem?]
   simp only [Array.getElem?_toList]
   exact Iff.rfl
  have huniq : ∀ q y, a[q]? = some y → y.key = vi i → q = j := fun q y hq hy => by
   have h5 := hs.2.2
   have hj' : (a.toList.map (·.key))[j]? = some (vi i) := by simp [hj, hx]
   have hq' : (a.toList.map (·.key))[q]? = some (vi i) := by simp [hq, hy]
   obtain ⟨l1, e1⟩ := List.getElem?_eq_some_iff.1 hj'
   obtain ⟨l2, e2⟩ := List.getElem?_eq_some_iff.1 hq'
   exact nodup_inj h5 l2 l1 (e2.trans e1.symm)
  refine ⟨a.modify j fun e => { e with key := vi i, val := v }, c, ?_, stamped_modify hs _ _ (fun _ _ => rfl) (fun e' _ he' => hkey e' he'), ?_⟩
  ·simp [Instr.mapUpdate, run_underlying hm, MapKept.run_getObj_map hb, run_checkKey (k := vi i) hd rfl, run_findKey hd h1, hj, hx, run_keyThatStays (d := .int .i64) (k := vi i) rfl, MapKept.run_setObj_map _ hb, Result.andThen]
  ·refine ⟨by simp [h2, h.1], ?_, ?_⟩
   ·intro y hy
    obtain ⟨q, hq⟩ := (hmem y).1 hy
    by_cases hjq : j = q
    ·rw [if_pos hjq] at hq
     cases ha : a[q]? with
     | none => rw [ha] at hq; cases hq
     | some u => rw [ha] at hq; injection hq with hq; exact ⟨i, by rw [← hq]⟩
    ·rw [if_neg hjq] at hq; exact h.2.1 y ((hal y).2 ⟨q, hq⟩)
   ·intro k' u
    by_cases hki : k' = i
    ·subst hki
     rw [put_same]
     constructor
     ·intro hu; injection hu with hu; subst hu
      exact ⟨_, (hmem _).2 ⟨j, by rw [if_pos rfl, hj]; rfl⟩, rfl, rfl⟩
     ·rintro ⟨y, hy, h4, h5⟩
      obtain ⟨q, hq⟩ := (hmem y).1 hy
      by_cases hjq : j = q
      ·subst hjq
       rw [if_pos rfl, hj] at hq
       injection hq with hq
       rw [← h5, ← hq]
      ·rw [if_neg hjq] at hq
       exact absurd (huniq q y hq h4).symm hjq
    ·rw [put_ne _ _ hki, h.2.2]
     constructor
     ·rintro ⟨y, hy, h4, h5⟩
      obtain ⟨q, hq⟩ := (hal y).1 hy
      refine ⟨y, (hmem y).2 ⟨q, ?_⟩, h4, h5⟩
      rw [if_neg]
      ·exact hq
      ·intro hjq; subst hjq
       rw [hj] at hq; injection hq with hq; subst hq
       rw [hx] at h4; injection h4 with _ h4; exact hki h4.symm
     ·rintro ⟨y, hy, h4, h5⟩
      obtain ⟨q, hq⟩ := (hmem y).1 hy
      by_cases hjq : j = q
      ·subst hjq
       rw [if_pos rfl, hj] at hq
       injection hq with hq
       rw [← hq] at h4
       injection h4 with _ h4; exact absurd h4.symm hki
      ·rw [if_neg hjq] at hq
       exact ⟨y, (hal y).2 ⟨q, hq⟩, h4, h5⟩
theorem MapIs.del {a : Array MapEntry} {c : Nat} {f : Int → Option Value} {n : Nat} (h : MapIs a f n) (hs : Stamped a c) (i : Int) {P : Program} {t kt ty b : Nat} {z : Value} (hk : mapk P t = some z) {w : World} (hb : w.heap[b]? = some (.map a c)) :
  ∃ a' c', (Builtin.delete_ #[t, kt] ty #[.map (some b), vi i]).run P w = .ok (.tuple #[]) { w with heap := w.heap.setIfInBounds b (.map a' c') } ∧ Stamped a' c' ∧ MapIs a' (Sl.del f i) (if (f i).isSome then n - 1 else n) := by
 obtain ⟨k, e, hm, hd, hz⟩ := MapK.und hk
 rcases h.find i with ⟨h1, h2, h3⟩ | ⟨j, x, h1, hj, hx, h2⟩
 ·refine ⟨a, c, ?_, hs, ?_⟩
  ·simp [Builtin.delete_, run_underlying hm, MapKept.run_getObj_map hb, run_checkKey (k := vi i) hd rfl, run_findKey hd h1, MapKept.run_setObj_map _ hb, Result.andThen]
  ·have : Sl.del f i = f := by
    funext k'
    by_cases hki : k' = i
    ·subst hki; rw [del_same, h2]
    ·rw [del_ne _ hki]
   rw [this]
   simpa [h2] using h
 ·have huniq : ∀ (q : Nat) y, a.toList[q]? = some y → y.key = vi i → q = j := fun q y hq hy => by
   have h5 := hs.2.2
   have hj' : (a.toList.map (·.key))[j]? = some (vi i) := by simp [hj, hx]
   have hq' : (a.toList.map (·.key))[q]? = some (vi i) := by rw [List.getElem?_map, hq]; simp [hy]
   obtain ⟨l1, e1⟩ := List.getElem?_eq_some_iff.1 hj'
   obtain ⟨l2, e2⟩ := List.getElem?_eq_some_iff.1 hq'
   exact nodup_inj h5 l2 l1 (e2.trans e1.symm)
  have hlt : j < a.size := (Array.getElem?_eq_some_iff.1 hj).1
  have hel : (a.eraseIdxIfInBounds j).toList = a.toList.eraseIdx j := by
   unfold Array.eraseIdxIfInBounds
   rw [dif_pos hlt]
   simp
  have hmem : ∀ y, y ∈ (a.eraseIdxIfInBounds j).toList ↔ y ∈ a.toList ∧ y.key ≠ vi i := fun y => by
   rw [hel, List.mem_eraseIdx_iff_getElem?, List.mem_iff_getElem?]
   constructor
   ·rintro ⟨q, hq, hy⟩
    exact ⟨⟨q, hy⟩, fun hk' => hq (huniq q y hy hk')⟩
   ·rintro ⟨⟨q, hy⟩, hk'⟩
    refine ⟨q, fun hq => ?_, hy⟩
    subst hq
    rw [Array.getElem?_toList, hj] at hy
    injection hy with hy
    subst hy
    exact hk' hx
  refine ⟨a.eraseIdxIfInBounds j, c, ?_, stamped_erase hs j, ?_, ?_, ?_⟩
  ·simp [Builtin.delete_, run_underlying hm, MapKept.run_getObj_map hb, run_checkKey (k := vi i) hd rfl, run_findKey hd h1, MapKept.run_setObj_map _ hb, Result.andThen]
  ·rw [h2]
   show (a.eraseIdxIfInBounds j).size = n - 1
   rw [← Array.length_toList, hel, List.length_eraseIdx_of_lt (by simpa using hlt), Array.length_toList, h.1]
  ·intro y hy; exact h.2.1 y ((hmem y).1 hy).1
  ·intro k' u
   by_cases hki : k' = i
   ·subst hki
    rw [del_same]
    constructor
    ·intro hu; cases hu
    ·rintro ⟨y, hy, h4, _⟩; exact absurd h4 ((hmem y).1 hy).2
   ·rw [del_ne _ hki, h.2.2]
    constructor
    ·rintro ⟨y, hy, h4, h5⟩
     exact ⟨y, (hmem y).2 ⟨hy, fun h6 => hki (by rw [h4] at h6; injection h6)⟩, h4, h5⟩
    ·rintro ⟨y, hy, h4, h5⟩; exact ⟨y, ((hmem y).1 hy).1, h4, h5⟩
section
variable {Γ : Cx} {ops : Array Oper} {rest : List Oper} {ρ : Nat → Value} {I : Mem} {L : List HP} {Q : Post} {ty : TypeId} {ps : String} {af : Array Edge}
theorem Sat.mpLook {E : Ev} {w : World} {b n : Nat} {f : Int → Option Value} (k : Nat) (hL : L[k]? = some (mp b f n)) (h : Sat E w I L) : ∃ a c, Stamped a c ∧ MapIs a f n ∧ w.heap[b]? = some (.map a c) := by
 obtain ⟨a, c, h1, h2, h3⟩ := h.mpOpen k hL
 have hlt : k < L.length := (List.getElem?_eq_some_iff.1 hL).1
 exact ⟨a, c, h1, h2, h3.lookK (k := k) (by simp [hlt])⟩
theorem Val.lookup2 {t b n : Nat} {x y : Operand} {i : Int} {z : Value} {f : Int → Option Value} (k : Nat) [hk : MapK Γ.P t z] (hx : ev ρ x = .map (some b)) (hy : ev ρ y = vi i) (hL : L[k]? = some (mp b f n)) :
  Val Γ ρ I L (.lookup t x y true) ty (.tuple #[(f i).getD z, .bool (f i).isSome]) := fun w hw => by
 obtain ⟨a, c, h1, h2, hb⟩ := hw.mpLook k hL
 have := run_look hk.is hb h2 i true
 simp only [if_true] at this
 simp only [execOp, hx, hy, Sem.run_bind, this, Result.andThen_ok]
 rfl
theorem Val.lookup1 {t b n : Nat} {x y : Operand} {i : Int} {z : Value} {f : Int → Option Value} (k : Nat) [hk : MapK Γ.P t z] (hx : ev ρ x = .map (some b)) (hy : ev ρ y = vi i) (hL : L[k]? = some (mp b f n)) :
  Val Γ ρ I L (.lookup t x y false) ty ((f i).getD z) := fun w hw => by
 obtain ⟨a, c, h1, h2, hb⟩ := hw.mpLook k hL
 have := run_look hk.is hb h2 i false
 simp only [Bool.false_eq_true, if_false] at this
 simp only [execOp, hx, hy, Sem.run_bind, this, Result.andThen_ok]
 rfl
theorem Val.lenMap {t b n : Nat} {x : Operand} {z : Value} {f : Int → Option Value} (k : Nat) [hk : MapK Γ.P t z] (hx : ev ρ x = .map (some b)) (hL : L[k]? = some (mp b f n)) :
  Val Γ ρ I L (.call { callee := .builtin .len, args := #[x], argTypes := #[t] }) ty (vi n) := fun w hw => by
 obtain ⟨a, c, h1, h2, hb⟩ := hw.mpLook k hL
 obtain ⟨kt, e, hm, hd, hz⟩ := MapK.und hk.is
 simp only [execOp, resolve, List.map_toArray, List.map_cons, List.map_nil, hx, pure_bind, invoke, builtin, Builtin.len_]
 simp [Sem.run_bind, run_underlying hm, MapKept.run_getObj_map hb, goInt, h2.1]
theorem Sat.mpSet {E : Ev} {w : World} {b n n' c : Nat} {f f' : Int → Option Value} {a : Array MapEntry} (k : Nat) (hL : L[k]? = some (mp b f n)) (h1 : Stamped a c) (h2 : MapIs a f' n') (h : Sat E w I L) :
  Sat E { w with heap := w.heap.setIfInBounds b (.map a c) } I (L.set k (mp b f' n')) := by
 obtain ⟨a0, c0, _, _, h3⟩ := h.mpOpen k hL
 have hlt : k < L.length := (List.getElem?_eq_some_iff.1 hL).1
 have hg : (L.set k (pt b (.map a0 c0)))[k]? = some (pt b (.map a0 c0)) := by simp [hlt]
 have hb := h3.lookK hg
 have h4 := h3.writeK hg (.map a c) (w.heap.setIfInBounds b (.map a c)) (heap_set hb).1 (fun j hj => (heap_set hb).2 j hj)
 rw [List.set_set] at h4
 have h5 := h4.mpClose (b := b) (f := f') (n := n') k (by simp [hlt]) h1 h2
 rw [List.set_set] at h5
 exact h5
theorem WL.mapUpdate {t b n : Nat} {m x y : Operand} {i : Int} {z : Value} {f : Int → Option Value} (k : Nat) [hk : MapK Γ.P t z] (hm : ev ρ m = .map (some b)) (hx : ev ρ x = vi i) (hL : L[k]? = some (mp b f n))
  (next : WL Γ ops rest ρ I (L.set k (mp b (Sl.put f i (ev ρ y)) (if (f i).isSome then n else n + 1))) Q) : WL Γ ops ({ dst := none, op := .mapUpdate t m x y, type := ty, pos := ps, after := af, guard := none } :: rest) ρ I L Q :=
 WL.effN (fun w hw => by
  obtain ⟨a, c, h1, h2, hb⟩ := hw.mpLook k hL
  obtain ⟨a', c', h3, h4, h5⟩ := h2.put h1 i (ev ρ y) hk.is hb
  exact ⟨_, by simp only [execOp, hm, hx, Sem.run_bind, h3, Result.andThen_ok]; rfl, hw.mpSet k hL h4 h5⟩) next
theorem WL.insert {t b n : Nat} {m x y : Operand} {i : Int} {z : Value} {f : Int → Option Value} (k : Nat) [hk : MapK Γ.P t z] (hm : ev ρ m = .map (some b)) (hx : ev ρ x = vi i) (hL : L[k]? = some (mp b f n))
  (next : WL Γ ops rest ρ I (L.set k (mp b (Sl.put f i (ev ρ y)) (if (f i).isSome then n else n + 1))) Q) : WL Γ ops ({ dst := none, op := .insert t m x y, type := ty, pos := ps, after := af, guard := none } :: rest) ρ I L Q :=
 WL.effN (fun w hw => by
  obtain ⟨a, c, h1, h2, hb⟩ := hw.mpLook k hL
  obtain ⟨a', c', h3, h4, h5⟩ := h2.put h1 i (ev ρ y) hk.is hb
  exact ⟨_, by simp only [execOp, hm, hx, Sem.run_bind, h3, Result.andThen_ok]; rfl, hw.mpSet k hL h4 h5⟩) next
theorem WL.delete {t kt b n : Nat} {m x : Operand} {i : Int} {z : Value} {f : Int → Option Value} (k : Nat) [hk : MapK Γ.P t z] (hm : ev ρ m = .map (some b)) (hx : ev ρ x = vi i) (hL : L[k]? = some (mp b f n))
  (next : WL Γ ops rest ρ I (L.set k (mp b (Sl.del f i) (if (f i).isSome then n - 1 else n))) Q) : WL Γ ops ({ dst := none, op := .call { callee := .builtin .delete, args := #[m, x], argTypes := #[t, kt] }, type := ty, pos := ps, after := af, guard := none } :: rest) ρ I L Q := by
 intro a w ha hw
 simp only [wpList, Region.wanted, if_true]
 refine .inl ?_
 unfold Oper.wp
 obtain ⟨a0, c0, h1, h2, hb⟩ := hw.mpLook k hL
 obtain ⟨a', c', h3, h4, h5⟩ := h2.del h1 i (kt := kt) (ty := ty) hk.is hb
 have hr : (execOp (ev ρ) { dst := none, op := .call { callee := .builtin .delete, args := #[m, x], argTypes := #[t, kt] }, type := ty, pos := ps, after := af, guard := none }).run Γ.P w = .ok (.value (.tuple #[])) { w with heap := w.heap.setIfInBounds b (.map a' c') } := by
  simp only [execOp, resolve, List.map_toArray, List.map_cons, List.map_nil, hm, hx, pure_bind, invoke, builtin, Sem.run_bind, h3, Result.andThen_ok]
  rfl
 rw [ha.ev, hr]
 exact next _ _ ha (hw.mpSet k hL h4 h5)
theorem WL.makeMap {d t : Nat} (hd : Nat.blt d Γ.n = true) (next : ∀ b, WL Γ ops rest (upd ρ d (.map (some b))) I (L ++ [mp b (fun _ => none) 0]) Q) :
  WL Γ ops ({ dst := some d, op := .makeMap t none, type := ty, pos := ps, after := af, guard := none } :: rest) ρ I L Q :=
 WL.effX (fun w hw => by
  have h1 := hw.alloc (.map #[] 0)
  have h2 := h1.mpClose (b := w.heap.size) (f := fun _ => none) (n := 0) L.length (by simp) (stamped_empty 0) ⟨rfl, by simp, by simp⟩
  rw [List.set_append_right _ _ (Nat.le_refl _), Nat.sub_self, List.set_cons_zero] at h2
  exact ⟨_, _, _, _, by simp only [execOp]; rfl, h2, next _⟩) hd
end
end Go.Sl

namespace Go.Sl
open Go Go.Ls Go.MapKept
theorem MapIs.uniq {a : Array MapEntry} {c : Nat} (hs : Stamped a c) {j q : Nat} {x y : MapEntry} (hj : a[j]? = some x) (hq : a[q]? = some y) (h : y.key = x.key) : q = j := by
 have h5 := hs.2.2
 have hj' : (a.toList.map (·.key))[j]? = some x.key := by simp [hj]
 have hq' : (a.toList.map (·.key))[q]? = some x.key := by simp [hq, h]
 obtain ⟨l1, e1⟩ := List.getElem?_eq_some_iff.1 hj'
 obtain ⟨l2, e2⟩ := List.getElem?_eq_some_iff.1 hq'
 exact nodup_inj h5 l2 l1 (e2.trans e1.symm)
theorem MapIs.bornIdx {a : Array MapEntry} {c : Nat} (hs : Stamped a c) {j : Nat} {x : MapEntry} (hj : a[j]? = some x) : a.findIdx? (fun e => (e.born : Int) == (x.born : Int)) = some j := by
 obtain ⟨hlt, hx⟩ := Array.getElem?_eq_some_iff.1 hj
 rw [Array.findIdx?_eq_some_iff_getElem]
 refine ⟨hlt, by rw [hx]; exact beq_self_eq_true _, fun q hq => ?_⟩
 have h5 := hs.2.1
 have hne : a[q].born ≠ x.born := fun e => by
  have l1 : q < (a.toList.map (·.born)).length := by simp; omega
  have l2 : j < (a.toList.map (·.born)).length := by simp; exact hlt
  have := nodup_inj h5 l1 l2 (by simp [e, hx])
  omega
 have hb : ((a[q].born : Int) == (x.born : Int)) = false := beq_eq_false_iff_ne.2 fun e => hne (by exact_mod_cast e)
 simp [hb]
theorem MapIs.entry {a : Array MapEntry} {c : Nat} {f : Int → Option Value} {n : Nat} (h : MapIs a f n) (hs : Stamped a c) (i : Int) (v : Value) (hf : f i = some v) {P : Program} {t b : Nat} {z : Value} (hk : mapk P t = some z) {w : World} (hb : w.heap[b]? = some (.map a c)) :
  ∃ (j : Nat) (x : MapEntry), a[j]? = some x ∧ x.key = vi i ∧ (Instr.mapEntry t (.map (some b)) (vi i)).run P w = .ok (.tuple #[v, vi x.born]) w := by
 obtain ⟨k, e, hm, hd, hz⟩ := MapK.und hk
 rcases h.find i with ⟨_, h2, _⟩ | ⟨j, x, h1, hj, hx, h2⟩
 ·rw [hf] at h2; cases h2
 ·refine ⟨j, x, hj, hx, ?_⟩
  have hv : x.val = v := by rw [hf] at h2; injection h2 with h2; exact h2.symm
  have hid : (a.modify j fun e => { e with key := vi i }) = a := by
   apply Array.ext_getElem?
   intro q
   rw [Array.getElem?_modify]
   split
   ·rename_i hq
    subst hq
    rw [hj]
    cases x
    simp only at hx
    subst hx
    rfl
   ·rfl
  have hw : { w with heap := w.heap.setIfInBounds b (.map a c) } = w := by
   have : w.heap.setIfInBounds b (.map a c) = w.heap := by
    apply Array.ext_getElem?
    intro q
    rw [Array.getElem?_setIfInBounds]
    split
    ·rename_i hq
     subst hq
     rw [hb]
     simp [(Array.getElem?_eq_some_iff.1 hb).1]
    ·rfl
   rw [this]
  simp [Instr.mapEntry, run_underlying hm, MapKept.run_getObj_map hb, run_checkKey (k := vi i) hd rfl, run_findKey hd h1, hj, hx, run_keyThatStays (d := .int .i64) (k := vi i) rfl, MapKept.run_setObj_map _ hb, Result.andThen, hid, hw, hv, goInt]
theorem MapIs.entryPut {a : Array MapEntry} {c : Nat} {f : Int → Option Value} {n j : Nat} {x : MapEntry} (h : MapIs a f n) (hs : Stamped a c) (i : Int) (v : Value) (hj : a[j]? = some x) (hx : x.key = vi i) {P : Program} {t b : Nat} {z : Value} (hk : mapk P t = some z) {w : World} (hb : w.heap[b]? = some (.map a c)) :
  ∃ a', (Instr.entryStore t (.map (some b)) (vi x.born) v).run P w = .ok () { w with heap := w.heap.setIfInBounds b (.map a' c) } ∧ Stamped a' c ∧ MapIs a' (Sl.put f i v) n := by
 obtain ⟨k, e, hm, hd, hz⟩ := MapK.und hk
 obtain ⟨a', c', hrun, hs', hm'⟩ := h.put hs i v hk hb
 have hfi : f i = some x.val := (h.2.2 i _).2 ⟨x, List.mem_of_getElem? (by simpa using hj), hx, rfl⟩
 rcases h.find i with ⟨_, h2, _⟩ | ⟨j', y, h1, hj', hy, _⟩
 ·rw [hfi] at h2; cases h2
 have hjj : j' = j := MapIs.uniq hs hj hj' (hy.trans hx.symm)
 subst hjj
 rw [hj] at hj'
 injection hj' with hxy
 subst hxy
 have hrun2 : (Instr.mapUpdate t (.map (some b)) (vi i) v).run P w = .ok () { w with heap := w.heap.setIfInBounds b (.map (a.modify j' fun e => { e with key := vi i, val := v }) c) } := by
  simp [Instr.mapUpdate, run_underlying hm, MapKept.run_getObj_map hb, run_checkKey (k := vi i) hd rfl, run_findKey hd h1, hj, hx, run_keyThatStays (d := .int .i64) (k := vi i) rfl, MapKept.run_setObj_map _ hb, Result.andThen]
 rw [hrun] at hrun2
 injection hrun2 with _ hw
 have hh := congrArg (fun w => w.heap[b]?) hw
 have hlt := (Array.getElem?_eq_some_iff.1 hb).1
 simp [hlt] at hh
 obtain ⟨rfl, rfl⟩ := hh
 have hmod : (a.modify j' fun e => { e with val := v }) = a.modify j' fun e => { e with key := vi i, val := v } := by
  apply Array.ext_getElem?
  intro q
  rw [Array.getElem?_modify, Array.getElem?_modify]
  split
  ·rename_i hq
   subst hq
   rw [hj]
   cases x
   simp only at hx
   subst hx
   rfl
  ·rfl
 refine ⟨_, ?_, hs', by simpa [hfi] using hm'⟩
 rw [← hmod]
 simp [Instr.entryStore, MapKept.run_getObj_map hb, asInt, asIntOf, Result.andThen, MapIs.bornIdx hs hj, MapKept.run_setObj_map _ hb]
section
variable {Γ : Cx} {ops : Array Oper} {rest : List Oper} {ρ : Nat → Value} {I : Mem} {L : List HP} {Q : Post} {ty : TypeId} {ps : String} {af : Array Edge}
theorem WL.mapEntry {d t b n : Nat} {m x : Operand} {i : Int} {z v : Value} {f : Int → Option Value} (k : Nat) [hk : MapK Γ.P t z] (hm : ev ρ m = .map (some b)) (hx : ev ρ x = vi i) (hL : L[k]? = some (mp b f n)) (hf : f i = some v) (hd : Nat.blt d Γ.n = true)
  (next : ∀ (a : Array MapEntry) (c j : Nat) (e : MapEntry), Stamped a c → MapIs a f n → a[j]? = some e → e.key = vi i → WL Γ ops rest (upd ρ d (.tuple #[v, vi e.born])) I (L.set k (pt b (.map a c))) Q) :
  WL Γ ops ({ dst := some d, op := .mapEntry t m x, type := ty, pos := ps, after := af, guard := none } :: rest) ρ I L Q :=
 WL.effX (fun w hw => by
  obtain ⟨a, c, h1, h2, hb⟩ := hw.mpLook k hL
  obtain ⟨a', c', h1', h2', hs⟩ := hw.mpOpen k hL
  have hlt : k < L.length := (List.getElem?_eq_some_iff.1 hL).1
  have hb' := hs.lookK (k := k) (b := b) (o := .map a' c') (by simp [hlt])
  rw [hb] at hb'
  injection hb' with hb'
  injection hb' with e1 e2
  subst e1; subst e2
  obtain ⟨j, e, hj, he, hrun⟩ := h2.entry h1 i v hf hk.is hb
  exact ⟨_, w, I, _, by simp only [execOp, hm, hx, Sem.run_bind, hrun, Result.andThen_ok]; rfl, hs, next _ _ j e h1 h2 hj he⟩) hd
theorem WL.entryStore {t b n c j : Nat} {m s x : Operand} {i : Int} {z : Value} {f : Int → Option Value} {a : Array MapEntry} {e : MapEntry} (k : Nat) [hk : MapK Γ.P t z] (hm : ev ρ m = .map (some b)) (hs : ev ρ s = vi e.born) (hL : L[k]? = some (pt b (.map a c)))
  (h1 : Stamped a c) (h2 : MapIs a f n) (hj : a[j]? = some e) (he : e.key = vi i)
  (next : WL Γ ops rest ρ I (L.set k (mp b (Sl.put f i (ev ρ x)) n)) Q) :
  WL Γ ops ({ dst := none, op := .entryStore t m s x, type := ty, pos := ps, after := af, guard := none } :: rest) ρ I L Q :=
 WL.effN (fun w hw => by
  have hb := hw.lookK hL
  obtain ⟨a', hrun, h3, h4⟩ := h2.entryPut h1 i (ev ρ x) hj he hk.is hb
  refine ⟨_, by simp only [execOp, hm, hs, Sem.run_bind, hrun, Result.andThen_ok]; rfl, ?_⟩
  have hlt : k < L.length := (List.getElem?_eq_some_iff.1 hL).1
  have h5 := hw.writeK hL (.map a' c) (w.heap.setIfInBounds b (.map a' c)) (heap_set hb).1 (fun j hj => (heap_set hb).2 j hj)
  have h6 := h5.mpClose (b := b) (f := Sl.put f i (ev ρ x)) (n := n) k (by simp [hlt]) h3 h4
  rw [List.set_set] at h6
  exact h6) next
end
end Go.Sl
