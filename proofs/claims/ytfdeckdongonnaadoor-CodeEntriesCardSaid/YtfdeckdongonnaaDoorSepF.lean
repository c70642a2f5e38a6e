/-
  More rules: frames for contracts, slices of the immutable heap, full slices, copy, strings of bytes, slices that are nil.
-/
import Derived.Test.YtfdeckdongonnaaDoorSepG
import Derived.Laws.BytesString
namespace Go.Sl
set_option linter.unusedVariables false
set_option linter.unusedSimpArgs false
open Go.RowKit

theorem Ctr.frame {P : Program} {f : FuncId} {args : List Value} {I : Mem} {L : List HP} {R : Value → Mem → List HP → Prop} (M : List HP) (h : Ctr P f args I L R) :
    Ctr P f args I (L ++ M) (fun v I' L' => ∃ L1, L' = L1 ++ M ∧ R v I' L1) := fun E w F hw => by
  have h1 : Sat E w I (sts (F :: M) :: L) := (hw.perm (show (F :: (L ++ M)).Perm ((F :: M) ++ L) from (List.perm_append_comm (l₁ := L) (l₂ := M)).cons F)).imp fun m hm => sts_fold hm
  refine (h E w _ h1).mono ?_
  rintro e w' ⟨v, I', L', a, b, c, d⟩
  refine ⟨v, I', L' ++ M, a, b, ?_, L', rfl, d⟩
  exact (c.imp fun m hm => sts_unfold hm).perm (show ((F :: M) ++ L').Perm (F :: (L' ++ M)) from (List.perm_append_comm (l₁ := M) (l₂ := L')).cons F)

theorem Ctr.behind {P : Program} {f : FuncId} {args : List Value} {I : Mem} {q : HP} {R : Value → Mem → List HP → Prop} (p : HP) (h : Ctr P f args I [q] R) (hs : ∀ v I' L', R v I' L' → ∃ q', L' = [q']) :
    Ctr P f args I [p, q] (fun v I' L' => ∃ q', L' = [p, q'] ∧ R v I' [q']) := fun E w F hw => by
  have h1 : Sat E w I (sts [F, p] :: [q]) := hw.imp fun m hm => sts_fold (l := [F, p]) (l' := [q]) hm
  refine (h E w _ h1).mono ?_
  rintro e w' ⟨v, I', L', a, b, c, d⟩
  obtain ⟨q', rfl⟩ := hs _ _ _ d
  exact ⟨v, I', [p, q'], a, b, c.imp fun m hm => sts_unfold (l := [F, p]) (l' := [q']) hm, q', rfl, d⟩
/-- A slice of n elements whose cells lie in the immutable heap. -/
def SlAt (I : Mem) (v : Value) (n : Nat) (cs : List Value) : Prop :=
  ∃ a cap, v = .slice a n cap ∧ (n ≤ cap ∧ cap ≤ maxLen) ∧ ((n = 0 ∧ cs = []) ∨ ∃ b off, a = some ⟨b, off, none⟩ ∧ At I b off cs)
theorem SlAt.mono {I I' : Mem} {v : Value} {n : Nat} {cs : List Value} (h : SlAt I v n cs) (hI : I.le I') : SlAt I' v n cs := by
  obtain ⟨a, cap, hv, hc, h⟩ := h
  exact ⟨a, cap, hv, hc, h.imp id fun ⟨b, off, h1, h2⟩ => ⟨b, off, h1, h2.mono hI⟩⟩
theorem SlAt.nil (I : Mem) : SlAt I (.slice none 0 0) 0 [] := ⟨none, 0, rfl, ⟨Nat.le_refl _, Nat.zero_le _⟩, .inl ⟨rfl, rfl⟩⟩
abbrev byt (x : Fin 256) : Value := .int .u8 (x.val : Int)
/-- Bytes in the immutable heap. -/
def Byt (I : Mem) (v : Value) (bs : List (Fin 256)) : Prop := SlAt I v bs.length (bs.map byt)
theorem Byt.mono {I I' : Mem} {v : Value} {bs : List (Fin 256)} (h : Byt I v bs) (hI : I.le I') : Byt I' v bs := SlAt.mono h hI
theorem Byt.nil (I : Mem) : Byt I (.slice none 0 0) [] := SlAt.nil I
theorem At.drop {I : Mem} {b off : Nat} {cs : List Value} (h : At I b off cs) (k : Nat) : At I b (off + k) (cs.drop k) := by
  obtain ⟨c, ty, fr, h1, h2⟩ := h
  refine ⟨c, ty, fr, h1, fun j v hj => ?_⟩
  rw [List.getElem?_drop] at hj
  have := h2 _ _ hj
  rwa [← Nat.add_assoc] at this
theorem At.take {I : Mem} {b off : Nat} {cs : List Value} (h : At I b off cs) (k : Nat) : At I b off (cs.take k) := by
  obtain ⟨c, ty, fr, h1, h2⟩ := h
  refine ⟨c, ty, fr, h1, fun j v hj => ?_⟩
  rw [List.getElem?_take] at hj
  split at hj
  · exact h2 _ _ hj
  · cases hj
/-- A part of bytes, as a slice. -/
theorem Byt.part {I : Mem} {a : Option Addr} {n cap : Nat} {bs : List (Fin 256)} (h : Byt I (.slice a n cap) bs) (l m cap' : Nat) (h1 : l ≤ m) (h2 : m ≤ n) (h3 : m ≤ cap') (h4 : cap' ≤ cap) :
    Byt I (.slice (if cap' = l then a else a.map (·.add (l * 1))) (m - l) (cap' - l)) ((bs.take m).drop l) := by
  obtain ⟨a', c, hv, hc, h⟩ := h
  cases hv
  have hl : ((bs.take m).drop l).length = m - l := by simp; omega
  refine ⟨_, _, by rw [hl], by rw [hl]; omega, ?_⟩
  rw [hl]
  by_cases hz : m - l = 0
  · exact .inl ⟨hz, by rw [List.map_eq_nil_iff]; exact List.eq_nil_of_length_eq_zero (by rw [hl, hz])⟩
  rcases h with ⟨h0, _⟩ | ⟨b, off, rfl, h⟩
  · omega
  · refine .inr ⟨b, off + l, ?_, ?_⟩
    · rw [if_neg (by omega)]
      simp [addr_add]
    · rw [List.map_drop, List.map_take]
      exact (h.take m).drop l
theorem SlAt.len {I : Mem} {v : Value} {n : Nat} {cs : List Value} (h : SlAt I v n cs) : ∃ a cap, v = .slice a n cap ∧ n ≤ cap := by
  obtain ⟨a, cap, hv, hc, _⟩ := h; exact ⟨a, cap, hv, hc.1⟩
theorem SlAt.le {I : Mem} {v : Value} {n : Nat} {cs : List Value} (h : SlAt I v n cs) : n ≤ maxLen := by
  obtain ⟨a, cap, hv, hc, _⟩ := h; exact Nat.le_trans hc.1 hc.2
theorem Byt.head {I : Mem} {v : Value} {x : Fin 256} {bs : List (Fin 256)} (h : Byt I v (x :: bs)) : ∃ b off cap, v = .slice (some ⟨b, off, none⟩) (bs.length + 1) cap ∧ bs.length + 1 ≤ cap ∧ At I b off ((x :: bs).map byt) := by
  obtain ⟨a, cap, rfl, hc, ⟨h0, _⟩ | ⟨b, off, rfl, h⟩⟩ := h
  · simp at h0
  · exact ⟨b, off, cap, rfl, hc.1, h⟩
theorem Byt.tail {I : Mem} {b off cap : Nat} {x : Fin 256} {bs : List (Fin 256)} (h : Byt I (.slice (some ⟨b, off, none⟩) (bs.length + 1) cap) (x :: bs)) (hc : bs.length + 1 ≤ cap) :
    Byt I (.slice (if cap = 1 then some ⟨b, off, none⟩ else some ⟨b, off + 1, none⟩) (bs.length + 1 - 1) (cap - 1)) bs := by
  have := h.part 1 (bs.length + 1) cap (by omega) (by omega) hc (Nat.le_refl _)
  have e : ((x :: bs).take (bs.length + 1)).drop 1 = bs := by simp
  rw [e] at this
  have e2 : (Option.map (fun x => Addr.add x (1 * 1)) (some (⟨b, off, none⟩ : Addr))) = some ⟨b, off + 1, none⟩ := by simp [addr_add]
  rw [e2] at this
  exact this
/-- A finished slice of one's own is laid into the immutable heap. -/
theorem Sat.freezeAt {E : Ev} {w : World} {I : Mem} {L : List HP} {e sz n : Nat} {v : Value} {xs : List Value} (h : Sat E w I (sl e sz v n xs :: L)) : ∃ I', I.le I' ∧ Sat E w I' L ∧ SlAt I' v n xs := by
  obtain ⟨I', h1, h2, ⟨rfl, rfl, rfl⟩ | ⟨g, cap, rfl, hc, hm, h3⟩⟩ := h.sl_freeze
  · exact ⟨I', h1, h2, SlAt.nil _⟩
  · exact ⟨I', h1, h2, _, _, rfl, ⟨hc, hm⟩, .inr ⟨g, 0, rfl, h3⟩⟩

section
variable {Γ : Cx} {ops : Array Oper} {rest : List Oper} {ρ : Nat → Value} {I : Mem} {L : List HP} {Q : Post} {ty : TypeId} {ps : String} {af : Array Edge}
/-- An empty slice of one's own. -/
theorem WC.slNil {c : Code} (e sz : Nat) (next : WC Γ c ρ I (L ++ [sl e sz (.slice none 0 0) 0 []]) Q) : WC Γ c ρ I L Q := fun a w ha hw => next a w ha ((hw.sl_nil (e := e) (sz := sz)).perm (List.perm_append_comm (l₁ := [_])))
theorem WL.slNil (e sz : Nat) (next : WL Γ ops rest ρ I (L ++ [sl e sz (.slice none 0 0) 0 []]) Q) : WL Γ ops rest ρ I L Q := fun a w ha hw => next a w ha ((hw.sl_nil (e := e) (sz := sz)).perm (List.perm_append_comm (l₁ := [_])))

/-- xs[:h:m]. -/
theorem Val.slice3 {t e n len cap h m : Nat} {a : Option Addr} {x hi mx : Operand} {k k' : IntKind} {i j : Int} [hk : SlK Γ.P t e n] (hx : ev ρ x = .slice a len cap) (hh : ev ρ hi = .int k i) (hm : ev ρ mx = .int k' j) (h0 : 0 ≤ i) (h0' : 0 ≤ j) (e1 : i.toNat = h) (e2 : j.toNat = m) (h1 : h ≤ m) (h2 : m ≤ cap) :
    Val Γ ρ I L (.slice t x none (some hi) (some mx)) ty (.slice (if m = 0 then a else a.map (·.add (0 * n))) (h - 0) (m - 0)) :=
  fun w _ => by
    obtain ⟨hu, ie, hie, hn⟩ := SlK.und hk.is
    have hs : (sizeOf e).run Γ.P w = .ok n w := by rw [run_sizeOf w hie]; simp [Program.cellsOf, hie, hn]
    have hb : (Instr.sliceBounds true len cap (Option.map (ev ρ) none) (Option.map (ev ρ) (some hi)) (Option.map (ev ρ) (some mx))).run Γ.P w = .ok (0, h, m) w := by
      subst e1; subst e2
      simp only [Instr.sliceBounds, Option.map_some, Option.map_none, hh, hm, pure_bind, Sem.run_bind, run_sliceBound h0' h2, run_sliceBound h0 h1, Result.andThen_ok]; rfl
    simp only [execOp, Instr.sliceAt, hx, Sem.run_bind, run_underlying hu, Result.andThen_ok, Instr.slice, hb, hs]
    rfl
/-- A slice against nil. -/
theorem Val.eqlNil {t t' e n len cap : Nat} {a : Option Addr} {x : Operand} [hk : SlK Γ.P t e n] (hx : ev ρ x = .slice a len cap) : Val Γ ρ I L (.binOp .eql t x (.const (.slice none 0 0)) t') ty (.bool a.isNone) :=
  fun w _ => by
    obtain ⟨hu, _⟩ := SlK.und hk.is
    have h1 : (Op.equal t (.slice a len cap) (.slice none 0 0)).run Γ.P w = .ok a.isNone w := by
      unfold Op.equal Op.maxDepth
      show (Op.equalIn (9999 + 1) t (.slice a len cap) (.slice none 0 0)).run Γ.P w = _
      unfold Op.equalIn
      cases a <;> (simp only [Sem.run_bind, run_underlying hu, Result.andThen_ok]; rfl)
    simp only [execOp, hx]
    simp [eqGuard, binOp, h1, ev]
    all_goals rfl

/-! strings of bytes -/
def strOf (bs : List (Fin 256)) : ByteArray := bs.foldl (fun r n => r.push (UInt8.ofNat n.val)) .empty
theorem foldl_push (bs : List (Fin 256)) : ∀ s : ByteArray, (bs.foldl (fun r n => r.push (UInt8.ofNat n.val)) s).data.toList = s.data.toList ++ bs.map (fun n => UInt8.ofNat n.val) := by
  induction bs with
  | nil => intro s; simp
  | cons x bs ih => intro s; rw [List.foldl_cons, ih]; simp [ByteArray.push]
theorem strOf_inj {a b : List (Fin 256)} (h : strOf a = strOf b) : a = b := by
  have h1 : (strOf a).data.toList = (strOf b).data.toList := by rw [h]
  rw [strOf, strOf, foldl_push, foldl_push] at h1
  simp only [ByteArray.empty, ByteArray.emptyWithCapacity, List.nil_append, Array.toList_empty] at h1
  refine (List.map_inj_right fun x y hxy => ?_).1 h1
  have : (UInt8.ofNat x.val).toNat = (UInt8.ofNat y.val).toNat := by rw [hxy]
  simp at this
  exact Fin.ext (by have := x.isLt; have := y.isLt; omega)
class BytesStrK (P : Program) (s t : Nat) : Prop where
  is : ∃ e, P.underlying s = some (.slice e) ∧ P.underlying e = some (.int .u8) ∧ P.underlying t = some .string
theorem Val.str {s t : Nat} {x : Operand} {v : Value} {bs : List (Fin 256)} [hk : BytesStrK Γ.P s t] (hx : ev ρ x = v) (hb : Byt I v bs) : Val Γ ρ I L (.convert s t x) ty (.string (strOf bs)) := fun w hw => by
  obtain ⟨e, h1, h2, h3⟩ := hk.is
  obtain ⟨a, cap, rfl, hc, h⟩ := hb
  have key : (Conv.bytesToString (.slice a bs.length cap)).run Γ.P w = .ok (.string (strOf bs)) w := by
    rcases h with ⟨h0, _⟩ | ⟨b, off, rfl, h⟩
    · obtain rfl := List.eq_nil_of_length_eq_zero h0
      cases a with
      | none => rfl
      | some a => rfl
    · have hl : (loadCells ⟨b, off, none⟩ bs.length).run Γ.P w = .ok ((bs.map fun n : Fin 256 => (n.val : Int)).map (Value.int .u8)).toArray w := by
        obtain ⟨c, cty, fr, hI, hcs⟩ := h
        have := run_loadCells_list (P := Γ.P) w ⟨b, off, none⟩ (bs.map byt) (fun j u hj => by
          have hh := hw.imm _ _ hI
          have := hcs j u hj
          rw [addr_add]
          simp [World.cell?, hh, this])
        simpa [List.map_map, Function.comp_def] using this
      rw [run_bytesToString w _ _ _ _ hl]
      simp only [strOf, List.foldl_map]
      rfl
  simp only [execOp, Go.convert, hx, Sem.run_bind, run_underlying h1, run_underlying h2, run_underlying h3, Result.andThen_ok, key]
  cases a <;> simp [Go.convert, Sem.run_bind, run_underlying h1, run_underlying h2, run_underlying h3, key] <;> rfl
class StrK (P : Program) (t : Nat) : Prop where
  is : P.underlying t = some .string
theorem strOf_list (a : List (Fin 256)) : (strOf a).toList = a.map (fun n => UInt8.ofNat n.val) := by
  rw [ByteArray.toList_eq, strOf, foldl_push]
  simp
theorem Val.eqlStr {t t' : Nat} {x y : Operand} {a b : List (Fin 256)} [hk : StrK Γ.P t] (hx : ev ρ x = .string (strOf a)) (hy : ev ρ y = .string (strOf b)) : Val Γ ρ I L (.binOp .eql t x y t') ty (.bool (decide (a = b))) := fun w _ => by
  have e : ((strOf a).toList == (strOf b).toList) = decide (a = b) := by
    by_cases h : a = b
    · subst h; simp
    · rw [decide_eq_false h, beq_eq_false_iff_ne, ne_eq, strOf_list, strOf_list]
      intro h2
      refine h ((List.map_inj_right fun x y hxy => ?_).1 h2)
      have : (UInt8.ofNat x.val).toNat = (UInt8.ofNat y.val).toNat := by rw [hxy]
      simp at this
      exact Fin.ext (by have := x.isLt; have := y.isLt; omega)
  simp only [execOp, hx, hy]
  simp [eqGuard, binOp, Op.stringOp, e]
  all_goals rfl
theorem Val.makeFuncL {fn : Fn} {p q : List Operand} : Val Γ ρ I L (.makeFunc fn p.toArray q.toArray) ty (.func fn (p.map (ev ρ)).toArray (q.map (ev ρ)).toArray) := fun w hw => by
  have := Val.makeFunc (Γ := Γ) (ρ := ρ) (I := I) (L := L) (ty := ty) (fn := fn) (p := p.toArray) (q := q.toArray) w hw
  simpa only [List.map_toArray] using this
class AddN (a b : Nat) (c : outParam Nat) : Prop where
  is : a + b = c
instance (priority := low) {a b : Nat} : AddN a b (a + b) := ⟨rfl⟩
instance {a : Nat} : AddN a 0 a := ⟨rfl⟩
instance (priority := high) {b : Nat} : AddN 0 b b := ⟨Nat.zero_add b⟩
theorem Val.fldAddr {s f b off o n o' : Nat} {g : Bool} {x : Operand} [hk : FldK Γ.P s f o g n] (hx : ev ρ x = .pointer (some ⟨b, off, none⟩)) [h : AddN off o o'] :
    Val Γ ρ I L (.fieldAddr s x f) ty (.pointer (some ⟨b, o', none⟩)) := by rw [← h.is]; exact Val.fieldAddr hx
/-! lists are kept written out -/
class SplL (cs : List Value) (off : Nat) (vs : List Value) (out : outParam (List Value)) : Prop where
  is : splice cs off vs = out
instance {cs : List Value} : SplL cs 0 [] cs := ⟨by simp [splice]⟩
instance {c v : Value} {cs vs o : List Value} [h : SplL cs 0 vs o] : SplL (c :: cs) 0 (v :: vs) (v :: o) := ⟨by
  have := h.is
  simp [splice] at this ⊢
  exact this⟩
instance {c : Value} {k : Nat} {cs vs o : List Value} [h : SplL cs k vs o] : SplL (c :: cs) (k + 1) vs (c :: o) := ⟨by
  have := h.is
  simp only [splice] at this ⊢
  rw [List.take_succ_cons, show k + 1 + vs.length = (k + vs.length) + 1 by omega, List.drop_succ_cons]
  simp only [List.cons_append, List.append_assoc] at this ⊢
  rw [this]⟩
class SetL (L : List HP) (k : Nat) (p : HP) (out : outParam (List HP)) : Prop where
  is : L.set k p = out
instance {L : List HP} {a p : HP} : SetL (a :: L) 0 p (p :: L) := ⟨rfl⟩
instance {L o : List HP} {a p : HP} {k : Nat} [h : SetL L k p o] : SetL (a :: L) (k + 1) p (a :: o) := ⟨by rw [List.set_cons_succ, h.is]⟩
class AppL (A B : List HP) (out : outParam (List HP)) : Prop where
  is : A ++ B = out
instance {B : List HP} : AppL [] B B := ⟨rfl⟩
instance {A B o : List HP} {a : HP} [h : AppL A B o] : AppL (a :: A) B (a :: o) := ⟨by rw [List.cons_append, h.is]⟩
class EraL (A : List HP) (k : Nat) (out : outParam (List HP)) : Prop where
  is : A.eraseIdx k = out
instance {A : List HP} {a : HP} : EraL (a :: A) 0 A := ⟨rfl⟩
instance {A o : List HP} {a : HP} {k : Nat} [h : EraL A k o] : EraL (a :: A) (k + 1) (a :: o) := ⟨by rw [List.eraseIdx_cons_succ, h.is]⟩
class PickL (ks : List Nat) (L : List HP) (xs r : outParam (List HP)) : Prop where
  is : picks ks L = some (xs, r)
class TakeL (k : Nat) (L : List HP) (p : outParam HP) (r : outParam (List HP)) : Prop where
  is : L[k]? = some p ∧ L.eraseIdx k = r
instance {L : List HP} {p : HP} : TakeL 0 (p :: L) p L := ⟨rfl, rfl⟩
instance {L r : List HP} {a p : HP} {k : Nat} [h : TakeL k L p r] : TakeL (k + 1) (a :: L) p (a :: r) := ⟨by rw [List.getElem?_cons_succ]; exact h.is.1, by rw [List.eraseIdx_cons_succ, h.is.2]⟩
instance {L : List HP} : PickL [] L [] L := ⟨rfl⟩
instance {L L1 xs r : List HP} {k : Nat} {ks : List Nat} {p : HP} [h : TakeL k L p L1] [h2 : PickL ks L1 xs r] : PickL (k :: ks) L (p :: xs) r := ⟨by
  unfold picks
  rw [h.is.1, h.is.2]
  simp only [h2.is]⟩
theorem WL.nApp {A B o : List HP} [h : AppL A B o] (next : WL Γ ops rest ρ I o Q) : WL Γ ops rest ρ I (A ++ B) Q := by rw [h.is]; exact next
theorem WL.nSet {A o : List HP} {k : Nat} {p : HP} [h : SetL A k p o] (next : WL Γ ops rest ρ I o Q) : WL Γ ops rest ρ I (A.set k p) Q := by rw [h.is]; exact next
theorem WL.nEra {A o : List HP} {k : Nat} [h : EraL A k o] (next : WL Γ ops rest ρ I o Q) : WL Γ ops rest ρ I (A.eraseIdx k) Q := by rw [h.is]; exact next
theorem WC.nApp {c : Code} {A B o : List HP} [h : AppL A B o] (next : WC Γ c ρ I o Q) : WC Γ c ρ I (A ++ B) Q := by rw [h.is]; exact next
theorem WC.nEra {c : Code} {A o : List HP} {k : Nat} [h : EraL A k o] (next : WC Γ c ρ I o Q) : WC Γ c ρ I (A.eraseIdx k) Q := by rw [h.is]; exact next
/-- A call; what is owned is written out. -/
theorem WL.callP {d : Nat} {f : FuncId} {x : Operand} {args : List Operand} {ats : Array TypeId} {fs cp vs : List Value} {Lc Lr : List HP} {R : Value → Mem → List HP → Prop} (ks : List Nat) [hf : FnK Γ.P f]
    (hx : ev ρ x = .func (.func f) fs.toArray cp.toArray) (hv : fs ++ args.map (ev ρ) ++ cp = vs) [hp : PickL ks L Lc Lr] (hc : Ctr Γ.P f vs I Lc R) (hd : Nat.blt d Γ.n = true)
    (next : ∀ v I' L', I.le I' → R v I' L' → WL Γ ops rest (upd ρ d v) I' (Lr ++ L') Q) :
    WL Γ ops ({ dst := some d, op := .call { callee := .value x, args := args.toArray, argTypes := ats }, type := ty, pos := ps, after := af, guard := none } :: rest) ρ I L Q :=
  WL.call ks hx hv hp.is hc hd next
/-- Stores; the cells are written out. -/
theorem WL.stI {t b off n bt : Nat} {g : Bool} {x y : Operand} {cs cs' : List Value} {L' : List HP} {kk : IntKind} {m : Int} (k : Nat) [hk : TyK Γ.P t g n] (hx : ev ρ x = .pointer (some ⟨b, off, none⟩)) (hL : L[k]? = some (Sl.box b bt cs)) (hy : ev ρ y = .int kk m)
    (hok : storeOk [.int kk m] n off cs.length = true) [h1 : SplL cs off [.int kk m] cs'] [h2 : SetL L k (Sl.box b bt cs') L'] (next : WL Γ ops rest ρ I L' Q) :
    WL Γ ops ({ dst := none, op := .store t x y, type := ty, pos := ps, after := af, guard := none } :: rest) ρ I L Q :=
  WL.store k hx hL (by rw [hy]; exact hok) (by rw [hy]; show WL Γ ops rest ρ I (L.set k (Sl.box b bt (splice cs off [.int kk m]))) Q; rw [h1.is, h2.is]; exact next)
theorem WL.stB {t b off n bt : Nat} {g : Bool} {x y : Operand} {cs cs' : List Value} {L' : List HP} {m : Bool} (k : Nat) [hk : TyK Γ.P t g n] (hx : ev ρ x = .pointer (some ⟨b, off, none⟩)) (hL : L[k]? = some (Sl.box b bt cs)) (hy : ev ρ y = .bool m)
    (hok : storeOk [.bool m] n off cs.length = true) [h1 : SplL cs off [.bool m] cs'] [h2 : SetL L k (Sl.box b bt cs') L'] (next : WL Γ ops rest ρ I L' Q) :
    WL Γ ops ({ dst := none, op := .store t x y, type := ty, pos := ps, after := af, guard := none } :: rest) ρ I L Q :=
  WL.store k hx hL (by rw [hy]; exact hok) (by rw [hy]; show WL Γ ops rest ρ I (L.set k (Sl.box b bt (splice cs off [.bool m]))) Q; rw [h1.is, h2.is]; exact next)
theorem WL.stP {t b off n bt : Nat} {g : Bool} {x y : Operand} {cs cs' : List Value} {L' : List HP} {m : Option Addr} (k : Nat) [hk : TyK Γ.P t g n] (hx : ev ρ x = .pointer (some ⟨b, off, none⟩)) (hL : L[k]? = some (Sl.box b bt cs)) (hy : ev ρ y = .pointer m)
    (hok : storeOk [.pointer m] n off cs.length = true) [h1 : SplL cs off [.pointer m] cs'] [h2 : SetL L k (Sl.box b bt cs') L'] (next : WL Γ ops rest ρ I L' Q) :
    WL Γ ops ({ dst := none, op := .store t x y, type := ty, pos := ps, after := af, guard := none } :: rest) ρ I L Q :=
  WL.store k hx hL (by rw [hy]; exact hok) (by rw [hy]; show WL Γ ops rest ρ I (L.set k (Sl.box b bt (splice cs off [.pointer m]))) Q; rw [h1.is, h2.is]; exact next)
theorem WL.stS {t b off n bt : Nat} {g : Bool} {x y : Operand} {cs cs' : List Value} {L' : List HP} {aa : Option Addr} {mm nn : Nat} (k : Nat) [hk : TyK Γ.P t g n] (hx : ev ρ x = .pointer (some ⟨b, off, none⟩)) (hL : L[k]? = some (Sl.box b bt cs)) (hy : ev ρ y = .slice aa mm nn)
    (hok : storeOk [.slice aa mm nn] n off cs.length = true) [h1 : SplL cs off [.slice aa mm nn] cs'] [h2 : SetL L k (Sl.box b bt cs') L'] (next : WL Γ ops rest ρ I L' Q) :
    WL Γ ops ({ dst := none, op := .store t x y, type := ty, pos := ps, after := af, guard := none } :: rest) ρ I L Q :=
  WL.store k hx hL (by rw [hy]; exact hok) (by rw [hy]; show WL Γ ops rest ρ I (L.set k (Sl.box b bt (splice cs off [.slice aa mm nn]))) Q; rw [h1.is, h2.is]; exact next)
theorem WL.stA {t b off n bt : Nat} {g : Bool} {x y : Operand} {cs cs' : List Value} {L' : List HP} {vs : List Value} (k : Nat) [hk : TyK Γ.P t g n] (hx : ev ρ x = .pointer (some ⟨b, off, none⟩)) (hL : L[k]? = some (Sl.box b bt cs)) (hy : ev ρ y = .agg vs.toArray)
    (hok : storeOk vs n off cs.length = true) [h1 : SplL cs off vs cs'] [h2 : SetL L k (Sl.box b bt cs') L'] (next : WL Γ ops rest ρ I L' Q) :
    WL Γ ops ({ dst := none, op := .store t x y, type := ty, pos := ps, after := af, guard := none } :: rest) ρ I L Q :=
  WL.store k hx hL (by rw [hy]; exact hok) (by rw [hy]; show WL Γ ops rest ρ I (L.set k (Sl.box b bt (splice cs off vs))) Q; rw [h1.is, h2.is]; exact next)
class SubL (cs : List Value) (off n : Nat) (out : outParam (List Value)) : Prop where
  is : (cs.drop off).take n = out
instance {cs : List Value} : SubL cs 0 0 [] := ⟨by simp⟩
instance {c : Value} {cs o : List Value} {n : Nat} [h : SubL cs 0 n o] : SubL (c :: cs) 0 (n + 1) (c :: o) := ⟨by have := h.is; simp at this ⊢; exact this⟩
instance {c : Value} {cs o : List Value} {k n : Nat} [h : SubL cs k n o] : SubL (c :: cs) (k + 1) n o := ⟨by rw [List.drop_succ_cons]; exact h.is⟩
theorem Val.ldO {t b off n bt : Nat} {x : Operand} {cs vs : List Value} (k : Nat) [hk : TyK Γ.P t true n] (hx : ev ρ x = .pointer (some ⟨b, off, none⟩)) (hL : L[k]? = some (Sl.box b bt cs)) (hc : Nat.ble (off + n) cs.length = true) [h : SubL cs off n vs] :
    Val Γ ρ I L (.load t x) ty (.agg vs.toArray) := by rw [← h.is]; exact Val.loadO k hx hL hc
theorem ResIs.cellL {x t n b off bt : Nat} {cs vs : List Value} (k : Nat) [hk : TyK Γ.P t true n] (h : ρ x = .pointer (some ⟨b, off, none⟩)) (hL : L[k]? = some (Sl.box b bt cs)) (hc : Nat.ble (off + n) cs.length = true) [h2 : SubL cs off n vs] :
    ResIs Γ ρ I L (.cell x t) (.agg vs.toArray) := by rw [← h2.is]; exact ResIs.cellO k h hL hc
theorem WX.doneP {fn : Func} {F : HP} {I0 : Mem} {L' Lr : List HP} {v : Value} {R : Value → Mem → List HP → Prop} (hres : RunRes Γ fn ρ I L v) (ks : List Nat) [hp : PickL (0 :: ks) L (F :: L') Lr] (hI : I0.le I) (hR : R v I L') :
    WX Γ .ret ρ I L (bodyPost Γ.P fn (FnPost Γ.E F I0 R)) := WX.doneR hres ks hp.is hI hR
theorem WL.freeze {e sz n : Nat} {v : Value} {xs : List Value} {L' : List HP} (k : Nat) (hL : L[k]? = some (sl e sz v n xs)) [hE : EraL L k L'] (next : ∀ I', I.le I' → SlAt I' v n xs → WL Γ ops rest ρ I' L' Q) : WL Γ ops rest ρ I L Q := fun a w ha hw => by
  obtain ⟨I', h1, h2, h3⟩ := (hw.perm (pull k L _ hL)).freezeAt
  rw [hE.is] at h2
  exact next I' h1 h3 a w ha h2
theorem WC.freeze {c : Code} {e sz n : Nat} {v : Value} {xs : List Value} {L' : List HP} (k : Nat) (hL : L[k]? = some (sl e sz v n xs)) [hE : EraL L k L'] (next : ∀ I', I.le I' → SlAt I' v n xs → WC Γ c ρ I' L' Q) : WC Γ c ρ I L Q := fun a w ha hw => by
  obtain ⟨I', h1, h2, h3⟩ := (hw.perm (pull k L _ hL)).freezeAt
  rw [hE.is] at h2
  exact next I' h1 h3 a w ha h2
theorem WX.freeze {c : Exit} {e sz n : Nat} {v : Value} {xs : List Value} {L' : List HP} (k : Nat) (hL : L[k]? = some (sl e sz v n xs)) [hE : EraL L k L'] (next : ∀ I', I.le I' → SlAt I' v n xs → WX Γ c ρ I' L' Q) : WX Γ c ρ I L Q := fun a w ha hw => by
  obtain ⟨I', h1, h2, h3⟩ := (hw.perm (pull k L _ hL)).freezeAt
  rw [hE.is] at h2
  exact next I' h1 h3 a w ha h2
/-- A block as a slice of one's own. -/
theorem WL.boxSl {g e sz n : Nat} {xs : List Value} {L' : List HP} (k : Nat) (hL : L[k]? = some (Sl.box g e xs)) (hn : xs.length = n * sz) (hm : n ≤ maxLen) [h2 : SetL L k (sl e sz (.slice (some ⟨g, 0, none⟩) n n) n xs) L'] (next : WL Γ ops rest ρ I L' Q) : WL Γ ops rest ρ I L Q := fun a w ha hw =>
  next a w ha (h2.is ▸ ((hw.perm (pull k L _ hL)).box_sl hn hm).perm (push_back k L _ _ hL))
/-- copy(d, s): all of s. -/
theorem WL.copy0 {d t e g o dn dc n bt : Nat} {x y : Operand} {v : Value} {cs ys : List Value} (k : Nat) [hk : SlK Γ.P t e 1] (hx : ev ρ x = .slice (some ⟨g, o, none⟩) dn dc) (hL : L[k]? = some (Sl.box g bt cs)) (hy : ev ρ y = v)
    (hs : SlAt I v n ys) (hn : ys.length = n) (h0 : 0 < n) (hdn : n ≤ dn) (h1 : ys.all Value.oneCell' = true) (hfit : o + n ≤ cs.length) (hd : Nat.blt d Γ.n = true)
    (next : WL Γ ops rest (upd ρ d (.int .i64 n)) I (L.set k (Sl.box g bt (splice cs o ys))) Q) :
    WL Γ ops ({ dst := some d, op := .call { callee := .builtin .copy, args := #[x, y], argTypes := #[t, t] }, type := ty, pos := ps, after := af, guard := none } :: rest) ρ I L Q :=
  WL.eff (fun w hw => by
    obtain ⟨hu, ie, hie, hsz⟩ := SlK.und hk.is
    obtain ⟨a, cap, rfl, hc, ⟨h00, _⟩ | ⟨b, off, rfl, c, cty, fr, hI, hcs⟩⟩ := hs
    · omega
    have hg := hw.lookK hL
    have hh := hw.imm _ _ hI
    have := run_copy_row (P := Γ.P) w t t ty e g o dn dc ⟨b, off, none⟩ n cap cs.toArray bt ys hu (by rw [hie]; simp [hsz]) hg (by rw [hn]; exact (Nat.min_eq_left hdn).symm) (fun j u hj => by
      have := hcs j u hj
      rw [addr_add]
      simp [World.cell?, hh, this]) (by simp; omega) (fun v hv => List.all_eq_true.1 h1 v hv)
    refine ⟨_, ?_, setRow_sat hw hL (splice cs o ys)⟩
    simp only [execOp, resolve, List.map_toArray, List.map_cons, List.map_nil, hx, hy, pure_bind, invoke, builtin, Sem.run_bind, this, Result.andThen_ok]
    subst hn
    simp [splice, goInt]) hd next
theorem WL.copy {d t e g o dn dc n bt : Nat} {x y : Operand} {v : Value} {cs ys cs' : List Value} {L' : List HP} (k : Nat) [hk : SlK Γ.P t e 1] (hx : ev ρ x = .slice (some ⟨g, o, none⟩) dn dc) (hL : L[k]? = some (Sl.box g bt cs)) (hy : ev ρ y = v)
    (hs : SlAt I v n ys) (hn : ys.length = n) (h0 : 0 < n) (hdn : n ≤ dn) (h1 : ys.all Value.oneCell' = true) (hfit : o + n ≤ cs.length) (hd : Nat.blt d Γ.n = true) [hS : SplL cs o ys cs'] [hE : SetL L k (Sl.box g bt cs') L']
    (next : WL Γ ops rest (upd ρ d (.int .i64 n)) I L' Q) :
    WL Γ ops ({ dst := some d, op := .call { callee := .builtin .copy, args := #[x, y], argTypes := #[t, t] }, type := ty, pos := ps, after := af, guard := none } :: rest) ρ I L Q :=
  WL.copy0 k hx hL hy hs hn h0 hdn h1 hfit hd (by rw [hS.is, hE.is]; exact next)
end
end Go.Sl
