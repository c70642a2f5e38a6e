/-
  More rules: comparisons that part the ways, answers of yes or no, appends of slices that lie in the immutable heap, results that are laid there.
-/
import Derived.Test.YtfdeckdongonnaaDoorSepF
namespace Go.Sl
set_option linter.unusedVariables false
set_option linter.unusedSimpArgs false
open Go.RowKit

/-- It answers whether p. -/
def EqP (p : Prop) : Value → Prop := fun v => ∃ b, v = .bool b ∧ (b = true ↔ p)
theorem EqP.t {p : Prop} (h : p) : EqP p (.bool true) := ⟨true, rfl, fun _ => h, fun _ => rfl⟩
theorem EqP.f {p : Prop} (h : ¬ p) : EqP p (.bool false) := ⟨false, rfl, fun h => (by cases h), fun k => absurd k h⟩
theorem EqP.congr {p q : Prop} {v : Value} (h : EqP p v) (k : p ↔ q) : EqP q v := by
  obtain ⟨b, rfl, hb⟩ := h; exact ⟨b, rfl, hb.trans k⟩
theorem EqP.dec {p : Prop} [d : Decidable p] : EqP p (.bool (decide p)) := ⟨_, rfl, by simp⟩
theorem cellsEq_iff : ∀ {ks : List CK} {xs ys : List Value}, wfC ks xs = true → wfC ks ys = true → (cellsEq xs ys = true ↔ xs = ys)
  | [], [], [], _, _ => by simp [cellsEq]
  | k :: ks, v :: xs, u :: ys, h, g => by
    simp only [wfC, Bool.and_eq_true] at h g
    have ih := cellsEq_iff h.2 g.2
    simp only [cellsEq, Bool.and_eq_true, ih, List.cons.injEq]
    have h1 := h.1; have g1 := g.1
    cases k <;> cases v <;> simp [CK.ok] at h1 <;> cases u <;> simp [CK.ok] at g1 <;> simp_all [cellEq]
  | [], _ :: _, _, h, _ => by simp [wfC] at h
  | [], [], _ :: _, _, h => by simp [wfC] at h
  | _ :: _, [], _, h, _ => by simp [wfC] at h
  | _ :: _, _ :: _, [], _, h => by simp [wfC] at h

theorem all_snoc {α : Type} {P : α → Prop} {l : List α} {k : Nat} (h : ∀ x ∈ l.take k, P x) (hk : k < l.length) (hx : P l[k]) : ∀ x ∈ l.take (k + 1), P x := by
  rw [List.take_succ_eq_append_getElem hk]
  intro x hm
  rcases List.mem_append.1 hm with hm | hm
  · exact h x hm
  · rw [List.mem_singleton.1 hm]; exact hx
section
variable {Γ : Cx} {ops : Array Oper} {rest : List Oper} {ρ : Nat → Value} {I : Mem} {L : List HP} {Q : Post} {ty : TypeId} {ps : String} {af : Array Edge} {d t t' : Nat} {x y : Operand}
section
variable {k : IntKind} {m n : Int} (hx : ev ρ x = .int k m) (hy : ev ρ y = .int k n) (hd : Nat.blt d Γ.n = true)
include hx hy hd
theorem WL.eqI (ht : m = n → WL Γ ops rest (upd ρ d (.bool true)) I L Q) (hf : m ≠ n → WL Γ ops rest (upd ρ d (.bool false)) I L Q) :
    WL Γ ops ({ dst := some d, op := .binOp .eql t x y t', type := ty, pos := ps, after := af, guard := none } :: rest) ρ I L Q := by
  by_cases h : m = n
  · exact WL.val (Val.eql hx hy (beq_iff_eq.2 h)) hd (ht h)
  · exact WL.val (Val.eql hx hy (beq_eq_false_iff_ne.2 h)) hd (hf h)
theorem WL.neI (ht : m ≠ n → WL Γ ops rest (upd ρ d (.bool true)) I L Q) (hf : m = n → WL Γ ops rest (upd ρ d (.bool false)) I L Q) :
    WL Γ ops ({ dst := some d, op := .binOp .neq t x y t', type := ty, pos := ps, after := af, guard := none } :: rest) ρ I L Q := by
  by_cases h : m = n
  · exact WL.val (Val.neq hx hy (by simpa using h)) hd (hf h)
  · exact WL.val (Val.neq hx hy (by simpa using h)) hd (ht h)
theorem WL.ltI (ht : m < n → WL Γ ops rest (upd ρ d (.bool true)) I L Q) (hf : n ≤ m → WL Γ ops rest (upd ρ d (.bool false)) I L Q) :
    WL Γ ops ({ dst := some d, op := .binOp .lss t x y t', type := ty, pos := ps, after := af, guard := none } :: rest) ρ I L Q := by
  by_cases h : m < n
  · exact WL.val (Val.lss hx hy (decide_eq_true h)) hd (ht h)
  · exact WL.val (Val.lss hx hy (decide_eq_false h)) hd (hf (by omega))
theorem WL.leI (ht : m ≤ n → WL Γ ops rest (upd ρ d (.bool true)) I L Q) (hf : n < m → WL Γ ops rest (upd ρ d (.bool false)) I L Q) :
    WL Γ ops ({ dst := some d, op := .binOp .leq t x y t', type := ty, pos := ps, after := af, guard := none } :: rest) ρ I L Q := by
  by_cases h : m ≤ n
  · exact WL.val (Val.leq hx hy (decide_eq_true h)) hd (ht h)
  · exact WL.val (Val.leq hx hy (decide_eq_false h)) hd (hf (by omega))
theorem WL.gtI (ht : n < m → WL Γ ops rest (upd ρ d (.bool true)) I L Q) (hf : m ≤ n → WL Γ ops rest (upd ρ d (.bool false)) I L Q) :
    WL Γ ops ({ dst := some d, op := .binOp .gtr t x y t', type := ty, pos := ps, after := af, guard := none } :: rest) ρ I L Q := by
  by_cases h : n < m
  · exact WL.val (Val.gtr hx hy (decide_eq_true h)) hd (ht h)
  · exact WL.val (Val.gtr hx hy (decide_eq_false h)) hd (hf (by omega))
theorem WL.geI (ht : n ≤ m → WL Γ ops rest (upd ρ d (.bool true)) I L Q) (hf : m < n → WL Γ ops rest (upd ρ d (.bool false)) I L Q) :
    WL Γ ops ({ dst := some d, op := .binOp .geq t x y t', type := ty, pos := ps, after := af, guard := none } :: rest) ρ I L Q := by
  by_cases h : n ≤ m
  · exact WL.val (Val.geq hx hy (decide_eq_true h)) hd (ht h)
  · exact WL.val (Val.geq hx hy (decide_eq_false h)) hd (hf (by omega))
end
section
variable {ks : List CK} {xs ys : List Value} [hk : EqK Γ.P t ks] (hx : ev ρ x = .agg xs.toArray) (hy : ev ρ y = .agg ys.toArray) (wx : wfC ks xs = true) (wy : wfC ks ys = true) (hd : Nat.blt d Γ.n = true)
include hk hx hy wx wy hd
theorem WL.eqS (ht : xs = ys → WL Γ ops rest (upd ρ d (.bool true)) I L Q) (hf : xs ≠ ys → WL Γ ops rest (upd ρ d (.bool false)) I L Q) :
    WL Γ ops ({ dst := some d, op := .binOp .eql t x y t', type := ty, pos := ps, after := af, guard := none } :: rest) ρ I L Q := by
  refine WL.val (Val.eqlS hx hy wx wy) hd ?_
  have hi := cellsEq_iff wx wy
  cases h : cellsEq xs ys
  · exact hf fun e => by rw [hi.2 e] at h; cases h
  · exact ht (hi.1 h)
theorem WL.neS (ht : xs ≠ ys → WL Γ ops rest (upd ρ d (.bool true)) I L Q) (hf : xs = ys → WL Γ ops rest (upd ρ d (.bool false)) I L Q) :
    WL Γ ops ({ dst := some d, op := .binOp .neq t x y t', type := ty, pos := ps, after := af, guard := none } :: rest) ρ I L Q := by
  refine WL.val (Val.neqS hx hy wx wy) hd ?_
  have hi := cellsEq_iff wx wy
  cases h : cellsEq xs ys
  · exact ht fun e => by rw [hi.2 e] at h; cases h
  · exact hf (hi.1 h)
end
theorem WL.eqB {a b : Bool} [hk : BoolK Γ.P t] (hx : ev ρ x = .bool a) (hy : ev ρ y = .bool b) (hd : Nat.blt d Γ.n = true) (ht : a = b → WL Γ ops rest (upd ρ d (.bool true)) I L Q) (hf : a ≠ b → WL Γ ops rest (upd ρ d (.bool false)) I L Q) :
    WL Γ ops ({ dst := some d, op := .binOp .eql t x y t', type := ty, pos := ps, after := af, guard := none } :: rest) ρ I L Q := by
  refine WL.val (Val.eqlB hx hy) hd ?_
  cases h : (a == b)
  · exact hf (by simpa using h)
  · exact ht (by simpa using h)
theorem WL.neB {a b : Bool} [hk : BoolK Γ.P t] (hx : ev ρ x = .bool a) (hy : ev ρ y = .bool b) (hd : Nat.blt d Γ.n = true) (ht : a ≠ b → WL Γ ops rest (upd ρ d (.bool true)) I L Q) (hf : a = b → WL Γ ops rest (upd ρ d (.bool false)) I L Q) :
    WL Γ ops ({ dst := some d, op := .binOp .neq t x y t', type := ty, pos := ps, after := af, guard := none } :: rest) ρ I L Q := by
  refine WL.val (Val.neqB hx hy) hd ?_
  cases h : (a == b)
  · exact ht (by simpa using h)
  · exact hf (by simpa using h)
theorem WL.eqStr {a b : List (Fin 256)} [hk : StrK Γ.P t] (hx : ev ρ x = .string (strOf a)) (hy : ev ρ y = .string (strOf b)) (hd : Nat.blt d Γ.n = true) (ht : a = b → WL Γ ops rest (upd ρ d (.bool true)) I L Q) (hf : a ≠ b → WL Γ ops rest (upd ρ d (.bool false)) I L Q) :
    WL Γ ops ({ dst := some d, op := .binOp .eql t x y t', type := ty, pos := ps, after := af, guard := none } :: rest) ρ I L Q := by
  refine WL.val (Val.eqlStr hx hy) hd ?_
  by_cases h : a = b
  · rw [decide_eq_true h]; exact ht h
  · rw [decide_eq_false h]; exact hf h
theorem Val.eqlD {ks : List CK} {xs ys : List Value} [hk : EqK Γ.P t ks] (hx : ev ρ x = .agg xs.toArray) (hy : ev ρ y = .agg ys.toArray) (wx : wfC ks xs = true) (wy : wfC ks ys = true) (h : xs ≠ ys) : Val Γ ρ I L (.binOp .eql t x y t') ty (.bool false) := by
  have := Val.eqlS (Γ := Γ) (t := t) (I := I) (L := L) (ty := ty) (t' := t') hx hy wx wy
  rwa [show cellsEq xs ys = false by cases e : cellsEq xs ys with | false => rfl | true => exact absurd ((cellsEq_iff wx wy).1 e) h] at this
theorem Val.neqD {ks : List CK} {xs ys : List Value} [hk : EqK Γ.P t ks] (hx : ev ρ x = .agg xs.toArray) (hy : ev ρ y = .agg ys.toArray) (wx : wfC ks xs = true) (wy : wfC ks ys = true) (h : xs ≠ ys) : Val Γ ρ I L (.binOp .neq t x y t') ty (.bool true) := by
  have := Val.neqS (Γ := Γ) (t := t) (I := I) (L := L) (ty := ty) (t' := t') hx hy wx wy
  rwa [show cellsEq xs ys = false by cases e : cellsEq xs ys with | false => rfl | true => exact absurd ((cellsEq_iff wx wy).1 e) h] at this
/-- A struct or an array of nothing but zeros. -/
theorem Val.build0 {zs : List Value} {pl : List (Nat × Nat)} [hz : ZeroK Γ.P t zs] [hp : PlK Γ.P t pl] : Val Γ ρ I L (.build t #[]) ty (.agg zs.toArray) := Val.build (qs := []) rfl
theorem WL.boxA {x : Operand} {cs : List Value} (hx : ev ρ x = .agg cs.toArray) (hd : Nat.blt d Γ.n = true)
    (next : ∀ g, WL Γ ops rest (upd ρ d (.pointer (some ⟨g, 0, none⟩))) I (L ++ [Sl.box g t cs]) Q) : WL Γ ops ({ dst := some d, op := .box t x, type := ty, pos := ps, after := af, guard := none } :: rest) ρ I L Q :=
  WL.box (by rw [hx]; rfl) hd next
theorem Val.indexA {l n : Nat} {cs vs : List Value} {k : IntKind} {j : Int} [hk : ArK Γ.P t l true n] (hx : ev ρ x = .agg cs.toArray) (hi : ev ρ y = .int k j) (h0 : 0 ≤ j) (h1 : j < l) (hv : (cs.drop (j.toNat * n)).take n = vs) :
    Val Γ ρ I L (.index t x y) ty (.agg vs.toArray) := fun w hw => by
  obtain ⟨e, hu, he⟩ := ArK.und hk.is
  have hp := run_partA he (cs := cs.toArray) (off := j.toNat * n) w
  have hz : (cs.toArray.extract (j.toNat * n) (j.toNat * n + n)) = vs.toArray := by
    rw [← hv]; apply Array.ext'; simp
  rw [hz] at hp
  simp only [execOp, hx, hi, Instr.index, asIntOf, pure_bind, Sem.run_bind, run_underlying hu, Result.andThen_ok]
  simp only [h0, h1, and_self, if_true, Sem.run_bind, TyK.size he, Result.andThen_ok, hp]
  rfl
theorem Val.loadIS {b off n : Nat} {cs vs : List Value} [hk : TyK Γ.P t true n] (hx : ev ρ x = .pointer (some ⟨b, off, none⟩)) (h : At I b 0 cs) (hc : Nat.ble (off + n) cs.length = true) [hs : SubL cs off n vs] : Val Γ ρ I L (.load t x) ty (.agg vs.toArray) := by
  refine Val.loadA hx ?_ (by have := Nat.le_of_ble_eq_true hc; rw [← hs.is]; simp; omega)
  have h2 := At.sub (k := off) n h rfl
  rw [Nat.zero_add, hs.is] at h2
  exact Rd.imm h2
theorem Val.loadSS {b off : Nat} {cs : List Value} {v : Value} [hk : TyK Γ.P t false 1] (hx : ev ρ x = .pointer (some ⟨b, off, none⟩)) (h : At I b 0 cs) (hv : cs[off]? = some v) : Val Γ ρ I L (.load t x) ty v := by
  refine Val.loadS hx (Rd.imm ?_)
  have h2 := At.one h hv
  rwa [Nat.zero_add] at h2
theorem WL.ap1 {a : Oper} {A B : List Oper} (h : WL Γ ops (a :: A.append B) ρ I L Q) : WL Γ ops ((a :: A).append B) ρ I L Q := h
theorem WL.ap0 {B : List Oper} (h : WL Γ ops B ρ I L Q) : WL Γ ops (([] : List Oper).append B) ρ I L Q := h
theorem Val.eqlStrT {a b : List (Fin 256)} [hk : StrK Γ.P t] (hx : ev ρ x = .string (strOf a)) (hy : ev ρ y = .string (strOf b)) (h : a = b) : Val Γ ρ I L (.binOp .eql t x y t') ty (.bool true) := by
  have := Val.eqlStr (Γ := Γ) (t := t) (I := I) (L := L) (ty := ty) (t' := t') hx hy
  rwa [decide_eq_true h] at this
theorem Val.neqStr {a b : List (Fin 256)} [hk : StrK Γ.P t] (hx : ev ρ x = .string (strOf a)) (hy : ev ρ y = .string (strOf b)) : Val Γ ρ I L (.binOp .neq t x y t') ty (.bool (!decide (a = b))) := fun w _ => by
  have e : ((strOf a).toList == (strOf b).toList) = decide (a = b) := by
    by_cases h : a = b
    · subst h; simp
    · rw [decide_eq_false h, beq_eq_false_iff_ne, ne_eq, strOf_list, strOf_list]
      intro h2
      refine h ((List.map_inj_right fun x y hxy => ?_).1 h2)
      have : (UInt8.ofNat x.val).toNat = (UInt8.ofNat y.val).toNat := by rw [hxy]
      simp at this
      exact Fin.ext (by have := x.isLt; have := y.isLt; omega)
  simp only [execOp, hx, hy]
  simp only [eqGuard, binOp, Op.stringOp, bne, e]
  all_goals rfl
theorem Val.neqStrF {a b : List (Fin 256)} [hk : StrK Γ.P t] (hx : ev ρ x = .string (strOf a)) (hy : ev ρ y = .string (strOf b)) (h : a = b) : Val Γ ρ I L (.binOp .neq t x y t') ty (.bool false) := by
  have := Val.neqStr (Γ := Γ) (t := t) (I := I) (L := L) (ty := ty) (t' := t') hx hy
  rwa [decide_eq_true h] at this
/-- A call that answers yes or no. -/
theorem WL.callE {f : FuncId} {x : Operand} {args : List Operand} {ats : Array TypeId} {fs cp vs : List Value} {p : Prop} [hf : FnK Γ.P f]
    (hx : ev ρ x = .func (.func f) fs.toArray cp.toArray) (hv : fs ++ args.map (ev ρ) ++ cp = vs) (hc : Ctr Γ.P f vs I [] (Still I (EqP p))) (hd : Nat.blt d Γ.n = true)
    (ht : p → WL Γ ops rest (upd ρ d (.bool true)) I L Q) (hf : ¬ p → WL Γ ops rest (upd ρ d (.bool false)) I L Q) :
    WL Γ ops ({ dst := some d, op := .call { callee := .value x, args := args.toArray, argTypes := ats }, type := ty, pos := ps, after := af, guard := none } :: rest) ρ I L Q :=
  WL.callS hx hv hc hd fun v ⟨b, hb, hp⟩ => by
    subst hb
    cases b
    · exact hf fun h => by have := hp.2 h; cases this
    · exact ht (hp.1 rfl)

/-- append of what lies in the immutable heap. -/
theorem WL.appAt {e sz by_ n m : Nat} {s x : Operand} {v u : Value} {xs ys zs : List Value} (k : Nat) [hk : SlK Γ.P t e sz] [hz : ZeroK Γ.P e zs] [hb : BytK Γ.P e by_]
    (hs : ev ρ s = v) (hL : L[k]? = some (sl e sz v n xs)) (hx : ev ρ x = u) (hu : SlAt I u m ys) (hy : ys.length = m * sz) (h1 : ys.all Value.oneCell' = true) (hzs : zs.length = sz) (hsz : 0 < sz)
    (hbound : (n + m) * by_ ≤ 140737488355328) (hmax : n + m ≤ maxLen) (hd : Nat.blt d Γ.n = true)
    (next : ∀ aa cap, WL Γ ops rest (upd ρ d (.slice aa (n + m) cap)) I (L.set k (sl e sz (.slice aa (n + m) cap) (n + m) (xs ++ ys))) Q) :
    WL Γ ops ({ dst := some d, op := .call { callee := .builtin .append, args := #[s, x], argTypes := #[t, t] }, type := ty, pos := ps, after := af, guard := none } :: rest) ρ I L Q := by
  obtain ⟨a, cap, rfl, hc, hA⟩ := hu
  rcases Nat.eq_zero_or_pos m with h0 | h0
  · subst h0
    have hys : ys = [] := List.eq_nil_of_length_eq_zero (by simpa using hy)
    subst hys
    have hset : L.set k (sl e sz v n xs) = L := by
      apply List.ext_getElem?
      intro j
      rw [List.getElem?_set]
      split
      · rename_i hj
        subst hj
        split
        · exact hL.symm
        · rename_i hlt
          rw [List.getElem?_eq_none (by omega)] at hL; cases hL
      · rfl
    intro ac w ha hw
    have hv : ∃ aa cc, v = .slice aa n cc := by
      obtain ⟨m, hm, h1, h2⟩ := (hw.perm (pull k L _ hL)).head
      rcases h2 with ⟨rfl, rfl⟩ | ⟨g, cap, cur, hv, _⟩
      · exact ⟨_, _, rfl⟩
      · exact ⟨_, _, hv⟩
    obtain ⟨aa, cc, rfl⟩ := hv
    refine WL.append0 k hs hL hx hd ?_ ac w ha hw
    have h2 := next aa cc
    simp only [Nat.add_zero, List.append_nil, hset] at h2
    exact h2
  · rcases hA with ⟨h, _⟩ | ⟨b, off, rfl, hA⟩
    · omega
    · exact WL.append k hs hL hx (Rd.imm hA) hy h1 hzs hsz h0 hbound hmax hd fun g cap => next _ _
/-- append of bytes. -/
theorem WL.appB {e : Nat} {s x : Operand} {v u : Value} {bs cs : List (Fin 256)} {zs : List Value} (k : Nat) [hk : SlK Γ.P t e 1] [hz : ZeroK Γ.P e zs] [hb : BytK Γ.P e 1]
    (hs : ev ρ s = v) (hL : L[k]? = some (sl e 1 v bs.length (bs.map byt))) (hx : ev ρ x = u) (hu : Byt I u cs) (hzs : zs.length = 1) (hl : (bs ++ cs).length ≤ 1099511627776) (hd : Nat.blt d Γ.n = true)
    (next : ∀ aa cap, WL Γ ops rest (upd ρ d (.slice aa (bs ++ cs).length cap)) I (L.set k (sl e 1 (.slice aa (bs ++ cs).length cap) (bs ++ cs).length ((bs ++ cs).map byt))) Q) :
    WL Γ ops ({ dst := some d, op := .call { callee := .builtin .append, args := #[s, x], argTypes := #[t, t] }, type := ty, pos := ps, after := af, guard := none } :: rest) ρ I L Q := by
  simp only [List.length_append] at hl
  refine WL.appAt k hs hL hx hu (by simp) (by simp [Value.oneCell']) hzs (by decide) (by omega) (by unfold maxLen; omega) hd fun aa cap => ?_
  have h := next aa cap
  simp only [List.length_append, List.map_append] at h
  exact h
end
/-- What is handed back in new memory of one's own may be laid into the immutable heap. -/
theorem Ctr.frz {P : Program} {f : FuncId} {args : List Value} {I : Mem} {L : List HP} {e sz : Nat} {n : Nat} {xs : List Value} (h : Ctr P f args I L (fun v I' L' => L' = [sl e sz v n xs])) :
    Ctr P f args I L (fun v I' L' => L' = [] ∧ SlAt I' v n xs) := fun E w F hw => by
  refine (h E w F hw).mono ?_
  rintro e w' ⟨v, I', L', a, b, c, rfl⟩
  obtain ⟨I'', h1, h2, h3⟩ := (c.perm (List.perm_append_comm (l₁ := [F]) (l₂ := [_]))).freezeAt
  exact ⟨v, I'', [], a, b.trans h1, h2, rfl, h3⟩
/-- Bytes in new memory of one's own. -/
abbrev OwnB (bs : List (Fin 256)) : Value → Mem → List HP → Prop := fun v _ L' => L' = [sl 5 1 v bs.length (bs.map byt)]
abbrev FrzB (bs : List (Fin 256)) : Value → Mem → List HP → Prop := fun v I' L' => L' = [] ∧ Byt I' v bs
theorem Ctr.frzB {P : Program} {f : FuncId} {args : List Value} {I : Mem} {L : List HP} {bs : List (Fin 256)} (h : Ctr P f args I L (OwnB bs)) : Ctr P f args I L (FrzB bs) := h.frz
theorem litByt {I : Mem} {g z : Nat} (h : At I g 0 [.int .u8 (z : Int)]) (hz : z < 256) : Byt I (.slice (some ⟨g, 0, none⟩) 1 1) [⟨z % 256, Nat.mod_lt _ (by decide)⟩] :=
  ⟨_, _, rfl, ⟨Nat.le_refl _, by decide⟩, .inr ⟨g, 0, rfl, by
    have e : (z % 256 : Nat) = z := Nat.mod_eq_of_lt hz
    simp only [List.map_cons, List.map_nil, byt, e]; exact h⟩⟩
section
variable {Γ : Cx} {ops : Array Oper} {rest : List Oper} {ρ : Nat → Value} {I : Mem} {L : List HP} {Q : Post} {ty : TypeId} {ps : String} {af : Array Edge}
/-- A call that hands back bytes in new memory. -/
theorem WL.callB {d : Nat} {f : FuncId} {x : Operand} {args : List Operand} {ats : Array TypeId} {fs cp vs : List Value} {bs : List (Fin 256)} [hf : FnK Γ.P f]
    (hx : ev ρ x = .func (.func f) fs.toArray cp.toArray) (hv : fs ++ args.map (ev ρ) ++ cp = vs) (hc : Ctr Γ.P f vs I [] (OwnB bs)) (hd : Nat.blt d Γ.n = true)
    (next : ∀ aa cap I', I.le I' → WL Γ ops rest (upd ρ d (.slice aa bs.length cap)) I' (L ++ [sl 5 1 (.slice aa bs.length cap) bs.length (bs.map byt)]) Q) :
    WL Γ ops ({ dst := some d, op := .call { callee := .value x, args := args.toArray, argTypes := ats }, type := ty, pos := ps, after := af, guard := none } :: rest) ρ I L Q :=
  WL.call (Lc := []) (Lr := L) [] hx hv rfl hc hd fun v I' L' hI h => by
    have h : L' = [sl 5 1 v bs.length (bs.map byt)] := h
    subst h
    intro a w ha hw
    have hv : ∃ aa cc, v = .slice aa bs.length cc := by
      obtain ⟨m, hm, h1, h2⟩ := (hw.perm List.perm_append_comm).head
      rcases h2 with ⟨rfl, h0⟩ | ⟨g, cap, cur, hv, _⟩
      · exact ⟨none, 0, by rw [h0]⟩
      · exact ⟨_, _, hv⟩
    obtain ⟨aa, cc, rfl⟩ := hv
    exact next aa cc I' hI a w ha hw
/-- One that hands back bytes that are laid into the immutable heap. -/
theorem WL.callF {d : Nat} {f : FuncId} {x : Operand} {args : List Operand} {ats : Array TypeId} {fs cp vs : List Value} {bs : List (Fin 256)} [hf : FnK Γ.P f]
    (hx : ev ρ x = .func (.func f) fs.toArray cp.toArray) (hv : fs ++ args.map (ev ρ) ++ cp = vs) (hc : Ctr Γ.P f vs I [] (FrzB bs)) (hd : Nat.blt d Γ.n = true)
    (next : ∀ aa cap I', I.le I' → Byt I' (.slice aa bs.length cap) bs → WL Γ ops rest (upd ρ d (.slice aa bs.length cap)) I' L Q) :
    WL Γ ops ({ dst := some d, op := .call { callee := .value x, args := args.toArray, argTypes := ats }, type := ty, pos := ps, after := af, guard := none } :: rest) ρ I L Q :=
  WL.call (Lc := []) (Lr := L) [] hx hv rfl hc hd fun v I' L' hI ⟨h, hB⟩ => by
    subst h
    obtain ⟨a, cap, rfl, _⟩ := SlAt.len hB
    rw [List.append_nil]
    exact next a cap I' hI hB
end
end Go.Sl
