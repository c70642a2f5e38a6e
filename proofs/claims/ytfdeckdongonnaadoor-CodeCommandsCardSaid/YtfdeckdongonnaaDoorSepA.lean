/-
  A small separation logic over the kit's rules for code: an immutable heap I that only grows, and a list L of owned assertions with a frame.
-/
import Derived.Tactics
import Derived.OrdersHeld
import Derived.KernelRfl
import Derived.LoopN
import Derived.Laws.World
namespace Go.Sl
set_option linter.unusedVariables false
set_option linter.unusedSimpArgs false

abbrev Mem := Nat → Option Obj
def Mem.le (m m' : Mem) : Prop := ∀ b o, m b = some o → m' b = some o
def Mem.dis (m m' : Mem) : Prop := ∀ b, m b = none ∨ m' b = none
def Mem.un (m m' : Mem) : Mem := fun b => (m b).or (m' b)
def Mem.ins (m : Mem) (b : Nat) (o : Obj) : Mem := fun c => if c = b then some o else m c
def Mem.sing (b : Nat) (o : Obj) : Mem := fun c => if c = b then some o else none
abbrev HP := Mem → Prop

theorem Mem.le.refl (m : Mem) : m.le m := fun _ _ h => h
theorem Mem.le.trans {a b c : Mem} (h : a.le b) (k : b.le c) : a.le c := fun x o hx => k x o (h x o hx)
theorem Mem.le_none {a b : Mem} (h : a.le b) {x : Nat} (hx : b x = none) : a x = none := by
  cases ha : a x with
  | none => rfl
  | some o => rw [h x o ha] at hx; cases hx
theorem Mem.dis.symm {a b : Mem} (h : a.dis b) : b.dis a := fun x => (h x).symm
theorem Mem.dis.le {a b c d : Mem} (h : a.dis b) (hc : c.le a) (hd : d.le b) : c.dis d := fun x =>
  (h x).elim (fun h => .inl (Mem.le_none hc h)) (fun h => .inr (Mem.le_none hd h))
theorem Mem.le_un_left (a b : Mem) : a.le (a.un b) := fun x o h => by simp [Mem.un, h]
theorem Mem.le_un_right {a b : Mem} (h : a.dis b) : b.le (a.un b) := fun x o hx => by
  rcases h x with h | h
  · simp [Mem.un, h, hx]
  · rw [h] at hx; cases hx
theorem Mem.un_le {a b c : Mem} (h : a.le c) (k : b.le c) : (a.un b).le c := fun x o hx => by
  unfold Mem.un at hx
  cases ha : a x with
  | none => rw [ha] at hx; exact k x o (by simpa using hx)
  | some v => rw [ha] at hx; simp at hx; subst hx; exact h x v ha
theorem Mem.dis_un {a b c : Mem} (h : a.dis b) (k : a.dis c) : a.dis (b.un c) := fun x => by
  rcases h x with h | h
  · exact .inl h
  · rcases k x with k | k
    · exact .inl k
    · exact .inr (by simp [Mem.un, h, k])
theorem Mem.un_none {a b : Mem} {x : Nat} (h : (a.un b) x = none) : a x = none ∧ b x = none := by
  unfold Mem.un at h
  cases ha : a x <;> simp_all

def sts : List HP → HP
  | [], _ => True
  | p :: l, m => ∃ m1 m2 : Mem, m1.le m ∧ m2.le m ∧ m1.dis m2 ∧ p m1 ∧ sts l m2

theorem sts_mono {l : List HP} {m m' : Mem} (h : sts l m) (k : m.le m') : sts l m' := by
  cases l with
  | nil => trivial
  | cons p l => obtain ⟨m1, m2, h1, h2, h3, h4, h5⟩ := h; exact ⟨m1, m2, h1.trans k, h2.trans k, h3, h4, h5⟩

theorem sts_swap {p q : HP} {l : List HP} {m : Mem} (h : sts (p :: q :: l) m) : sts (q :: p :: l) m := by
  obtain ⟨m1, m2, h1, h2, h3, h4, m3, m4, h5, h6, h7, h8, h9⟩ := h
  refine ⟨m3, m1.un m4, h5.trans h2, Mem.un_le h1 (h6.trans h2), Mem.dis_un (h3.symm.le h5 (Mem.le.refl _)) h7, h8, m1, m4, Mem.le_un_left _ _, Mem.le_un_right (h3.le (Mem.le.refl _) h6), h3.le (Mem.le.refl _) h6, h4, h9⟩

theorem sts_perm {l l' : List HP} (hp : l.Perm l') : ∀ {m : Mem}, sts l m → sts l' m := by
  induction hp with
  | nil => exact fun h => h
  | cons p _ ih => exact fun ⟨m1, m2, h1, h2, h3, h4, h5⟩ => ⟨m1, m2, h1, h2, h3, h4, ih h5⟩
  | swap p q l => exact sts_swap
  | trans _ _ ih1 ih2 => exact fun h => ih2 (ih1 h)

theorem sts_append {l l' : List HP} : ∀ {m : Mem}, sts (l ++ l') m → ∃ m1 m2 : Mem, m1.le m ∧ m2.le m ∧ m1.dis m2 ∧ sts l m1 ∧ sts l' m2 := by
  induction l with
  | nil => exact fun {m} h => ⟨fun _ => none, m, fun _ _ h => (by cases h), Mem.le.refl _, fun _ => .inl rfl, trivial, h⟩
  | cons p l ih =>
    rintro m ⟨m1, m2, h1, h2, h3, h4, h5⟩
    obtain ⟨m3, m4, k1, k2, k3, k4, k5⟩ := ih h5
    exact ⟨m1.un m3, m4, Mem.un_le h1 (k1.trans h2), k2.trans h2, (Mem.dis_un (h3.le (Mem.le.refl _) k2).symm k3.symm).symm, ⟨m1, m3, Mem.le_un_left _ _, Mem.le_un_right (h3.le (Mem.le.refl _) k1), h3.le (Mem.le.refl _) k1, h4, k4⟩, k5⟩

theorem sts_app {l l' : List HP} : ∀ {m m1 m2 : Mem}, m1.le m → m2.le m → m1.dis m2 → sts l m1 → sts l' m2 → sts (l ++ l') m := by
  induction l with
  | nil => exact fun _ h2 _ _ h => sts_mono h h2
  | cons p l ih =>
    rintro m m1 m2 h1 h2 h3 ⟨m3, m4, k1, k2, k3, k4, k5⟩ h5
    refine ⟨m3, m4.un m2, k1.trans h1, Mem.un_le (k2.trans h1) h2, Mem.dis_un k3 (h3.le k1 (Mem.le.refl _)), k4, ih (Mem.le_un_left _ _) (Mem.le_un_right (h3.le k2 (Mem.le.refl _))) (h3.le k2 (Mem.le.refl _)) k5 h5⟩

/-- A list's part as one assertion. -/
theorem sts_fold {l l' : List HP} {m : Mem} (h : sts (l ++ l') m) : sts (sts l :: l') m := by
  obtain ⟨m1, m2, h1, h2, h3, h4, h5⟩ := sts_append h
  exact ⟨m1, m2, h1, h2, h3, h4, h5⟩
theorem sts_unfold {l l' : List HP} {m : Mem} (h : sts (sts l :: l') m) : sts (l ++ l') m := by
  obtain ⟨m1, m2, h1, h2, h3, h4, h5⟩ := h
  exact sts_app h1 h2 h3 h4 h5

structure Ev where
  tape : Nat → Question → Nat
  os : Os
  output : Array (Nat × ByteArray)

structure Sat (E : Ev) (w : World) (I : Mem) (L : List HP) : Prop where
  tape : w.tape = E.tape
  os : w.os = E.os
  output : w.output = E.output
  imm : ∀ b o, I b = some o → w.heap[b]? = some o
  own : ∃ m : Mem, (∀ b o, m b = some o → w.heap[b]? = some o) ∧ I.dis m ∧ sts L m

section
variable {E : Ev} {w : World} {I : Mem} {L L' : List HP}
theorem Sat.perm (h : Sat E w I L) (hp : L.Perm L') : Sat E w I L' :=
  ⟨h.tape, h.os, h.output, h.imm, let ⟨m, a, b, c⟩ := h.own; ⟨m, a, b, sts_perm hp c⟩⟩
theorem Sat.imp (h : Sat E w I L) (hp : ∀ m, sts L m → sts L' m) : Sat E w I L' :=
  ⟨h.tape, h.os, h.output, h.imm, let ⟨m, a, b, c⟩ := h.own; ⟨m, a, b, hp m c⟩⟩

def pt (b : Nat) (o : Obj) : HP := fun m => m b = some o

theorem Sat.head {p : HP} (h : Sat E w I (p :: L)) : ∃ m : Mem, (∀ b o, m b = some o → w.heap[b]? = some o) ∧ p m := by
  obtain ⟨m, a, _, m1, m2, h1, h2, h3, h4, h5⟩ := h.own
  exact ⟨m1, fun b o hb => a b o (h1 b o hb), h4⟩
theorem Sat.look {b : Nat} {o : Obj} (h : Sat E w I (pt b o :: L)) : w.heap[b]? = some o := by
  obtain ⟨m, a, hp⟩ := h.head
  exact a b o hp

theorem Mem.lt_of {m : Mem} (h : ∀ b o, m b = some o → w.heap[b]? = some o) {b : Nat} {o : Obj} (hb : m b = some o) : b < w.heap.size :=
  (Array.getElem?_eq_some_iff.1 (h b o hb)).1

/-- A new block. -/
theorem Sat.alloc (h : Sat E w I L) (o : Obj) : Sat E { w with heap := w.heap.push o } I (L ++ [pt w.heap.size o]) := by
  obtain ⟨m, a, b, c⟩ := h.own
  have keep : ∀ {m : Mem}, (∀ b o, m b = some o → w.heap[b]? = some o) → ∀ k x, m k = some x → (w.heap.push o)[k]? = some x := fun hm k x hk => by
    have := Mem.lt_of hm hk
    rw [Array.getElem?_push, if_neg (by omega)]
    exact hm k x hk
  have nw : m w.heap.size = none := by
    cases hm : m w.heap.size with
    | none => rfl
    | some x => exact absurd (Mem.lt_of a hm) (by omega)
  have nI : I w.heap.size = none := by
    cases hm : I w.heap.size with
    | none => rfl
    | some x => exact absurd (Mem.lt_of h.imm hm) (by omega)
  have hd : m.dis (Mem.sing w.heap.size o) := fun k => by
    by_cases hk : k = w.heap.size
    · subst hk; exact .inl nw
    · exact .inr (by simp [Mem.sing, hk])
  refine ⟨h.tape, h.os, h.output, keep h.imm, m.un (Mem.sing w.heap.size o), ?_, ?_, ?_⟩
  · intro k x hk
    unfold Mem.un at hk
    cases hm : m k with
    | some y => rw [hm] at hk; simp at hk; subst hk; exact keep a k y hm
    | none =>
      rw [hm] at hk
      simp [Mem.sing] at hk
      obtain ⟨rfl, rfl⟩ := hk
      simp
  · refine Mem.dis_un b fun k => ?_
    by_cases hk : k = w.heap.size
    · subst hk; exact .inl nI
    · exact .inr (by simp [Mem.sing, hk])
  · exact sts_app (Mem.le_un_left _ _) (Mem.le_un_right hd) hd c ⟨Mem.sing w.heap.size o, fun _ => none, Mem.le.refl _, fun _ _ h => (by cases h), fun _ => .inr rfl, by simp [pt, Mem.sing], trivial⟩

/-- An owned block is written. -/
theorem Sat.write {b : Nat} {o : Obj} (h : Sat E w I (pt b o :: L)) (o' : Obj) (heap' : Array Obj) (h1 : heap'[b]? = some o') (h2 : ∀ k, k ≠ b → heap'[k]? = w.heap[k]?) :
    Sat E { w with heap := heap' } I (pt b o' :: L) := by
  obtain ⟨m, a, d, m1, m2, e1, e2, e3, e4, e5⟩ := h.own
  have hb : m1 b = some o := e4
  have hmb : m b = some o := e1 b o hb
  have hI : I b = none := (d b).elim id (fun h => by rw [hmb] at h; cases h)
  have h2b : m2 b = none := (e3 b).elim (fun h => by rw [hb] at h; cases h) id
  refine ⟨h.tape, h.os, h.output, fun k x hk => ?_, (Mem.sing b o').un m2, ?_, ?_, ⟨Mem.sing b o', m2, Mem.le_un_left _ _, Mem.le_un_right ?_, ?_, by simp [pt, Mem.sing], e5⟩⟩
  · have : k ≠ b := fun e => by subst e; rw [hI] at hk; cases hk
    exact (h2 k this).trans (h.imm k x hk)
  · intro k x hk
    unfold Mem.un Mem.sing at hk
    by_cases hkb : k = b
    · subst hkb; simp at hk; subst hk; exact h1
    · simp [hkb] at hk
      exact (h2 k hkb).trans (a k x (e2 k x hk))
  · refine Mem.dis_un (fun k => ?_) (d.le (Mem.le.refl _) e2)
    by_cases hkb : k = b
    · subst hkb; exact .inl hI
    · exact .inr (by simp [Mem.sing, hkb])
  all_goals
    intro k
    by_cases hkb : k = b
    · subst hkb; exact .inr h2b
    · exact .inl (by simp [Mem.sing, hkb])

/-- An owned block becomes immutable. -/
theorem Sat.freeze {b : Nat} {o : Obj} (h : Sat E w I (pt b o :: L)) : Sat E w (I.ins b o) L ∧ I.le (I.ins b o) := by
  obtain ⟨m, a, d, m1, m2, e1, e2, e3, e4, e5⟩ := h.own
  have hb : m1 b = some o := e4
  have hmb : m b = some o := e1 b o hb
  have hI : I b = none := (d b).elim id (fun h => by rw [hmb] at h; cases h)
  have h2b : m2 b = none := (e3 b).elim (fun h => by rw [hb] at h; cases h) id
  refine ⟨⟨h.tape, h.os, h.output, fun k x hk => ?_, m2, fun k x hk => a k x (e2 k x hk), fun k => ?_, e5⟩, fun k x hk => ?_⟩
  · unfold Mem.ins at hk
    by_cases hkb : k = b
    · subst hkb; simp at hk; subst hk; exact a _ _ hmb
    · simp [hkb] at hk; exact h.imm k x hk
  · by_cases hkb : k = b
    · subst hkb; exact .inr h2b
    · refine (d.le (Mem.le.refl _) e2 k).imp (fun h => by simp [Mem.ins, hkb, h]) id
  · have : k ≠ b := fun e => by subst e; rw [hI] at hk; cases hk
    simp [Mem.ins, this, hk]
theorem Sat.drew (h : Sat E w I L) : Sat E { w with drawn := w.drawn + 1 } I L := ⟨h.tape, h.os, h.output, h.imm, h.own⟩
end

/-! ### Environments, goals -/
def upd (ρ : Nat → Value) (d : Nat) (v : Value) : Nat → Value := fun t => bif Nat.beq t d then v else ρ t
theorem upd_self {ρ : Nat → Value} {d : Nat} {v : Value} (h : ρ d = v) : upd ρ d v = ρ := by
  funext t
  unfold upd
  cases hb : Nat.beq t d with
  | false => rfl
  | true => rw [Nat.eq_of_beq_eq_true hb, h]; rfl
def argρ : List Value → Nat → Value
  | [], _ => undef
  | v :: _, 0 => v
  | _ :: l, t + 1 => argρ l t
def ev (ρ : Nat → Value) : Operand → Value
  | .tmp t => ρ t
  | .const v => v
  | .global g => .pointer (some ⟨g, 0, none⟩)
  | .func f => .func (.func f) #[] #[]

structure Loc (n : Nat) (ρ : Nat → Value) (a : Act) : Prop where
  defers : a.defers = []
  size : a.tmps.size = n
  get : ∀ t, a.tmps.getD t undef = ρ t

theorem Loc.ev {n : Nat} {ρ : Nat → Value} {a : Act} (h : Loc n ρ a) : a.eval = Sl.ev ρ := by
  funext x
  cases x with
  | tmp t => exact h.get t
  | _ => rfl
theorem Loc.put {n : Nat} {ρ : Nat → Value} {a : Act} (h : Loc n ρ a) {d : Nat} (hd : Nat.blt d n = true) (v : Value) : Loc n (upd ρ d v) (a.put (some d) v) := by
  have hd' : d < n := by have : Nat.ble (d + 1) n = true := hd; exact Nat.le_of_ble_eq_true this
  refine ⟨h.defers, by simp [Act.put, h.size], fun t => ?_⟩
  have := h.get t
  simp only [Array.getD_eq_getD_getElem?] at *
  simp only [Act.put, upd, Array.getElem?_setIfInBounds]
  by_cases ht : d = t
  · subst ht; simp [h.size, hd', Nat.beq_refl]
  · have h2 : Nat.beq t d = false := by
      cases hb : Nat.beq t d with
      | false => rfl
      | true => exact absurd (Nat.eq_of_beq_eq_true hb).symm ht
    simp [ht, h2, this]
theorem Loc.putNone {n : Nat} {ρ : Nat → Value} {a : Act} (h : Loc n ρ a) (v : Value) : Loc n ρ (a.put none v) := h
theorem argρ_get (l : List Value) (t : Nat) : argρ l t = l.getD t undef := by
  induction l generalizing t with
  | nil => simp [argρ]
  | cons v l ih => cases t with
    | zero => simp [argρ]
    | succ t => simp only [argρ, ih]; simp
theorem Loc.start {n : Nat} {args : List Value} (h : args.length ≤ n) : Loc n (argρ args) { tmps := args.toArray ++ Array.replicate (n - args.toArray.size) undef, defers := [] } := by
  refine ⟨rfl, by simp; omega, fun t => ?_⟩
  rw [argρ_get, Array.getD_eq_getD_getElem?, Array.getElem?_append]
  by_cases ht : t < args.length
  · simp [ht]
  · simp only [List.size_toArray, ht, if_false]
    rw [List.getD_eq_getElem?_getD, List.getElem?_eq_none (by omega)]
    by_cases h2 : t - args.length < n - args.length
    · simp [Array.getElem?_replicate, h2]
    · simp [Array.getElem?_replicate, h2]

structure Cx where
  P : Program
  E : Ev
  n : Nat

abbrev Post := Exit → Act → World → Prop
def WX (Γ : Cx) (e : Exit) (ρ : Nat → Value) (I : Mem) (L : List HP) (Q : Post) : Prop := ∀ a w, Loc Γ.n ρ a → Sat Γ.E w I L → Q e a w
def WC (Γ : Cx) (c : Code) (ρ : Nat → Value) (I : Mem) (L : List HP) (Q : Post) : Prop := ∀ a w, Loc Γ.n ρ a → Sat Γ.E w I L → c.wp Γ.P Q a w
def WL (Γ : Cx) (ops : Array Oper) (l : List Oper) (ρ : Nat → Value) (I : Mem) (L : List HP) (Q : Post) : Prop := ∀ a w, Loc Γ.n ρ a → Sat Γ.E w I L → wpList Γ.P ops Q l a w
/-- A continuation. -/
def WK (Γ : Cx) (K : Act → World → Prop) (ρ : Nat → Value) (I : Mem) (L : List HP) : Prop := ∀ a w, Loc Γ.n ρ a → Sat Γ.E w I L → K a w

section
variable {Γ : Cx} {ρ : Nat → Value} {I : Mem} {L : List HP} {Q : Post}
theorem WC.region {id : Nat} {l : List Oper} (h : WL Γ l.toArray l ρ I L Q) : WC Γ (.region id l.toArray false) ρ I L Q :=
  fun a w ha hw => wp_region_list (by simpa using h a w ha hw)
theorem WL.nil {ops : Array Oper} (h : WX Γ .normal ρ I L Q) : WL Γ ops [] ρ I L Q := h
theorem WC.seq {x y : Code} (h : WC Γ x ρ I L (Exit.then (y.wp Γ.P Q) Q)) : WC Γ (.seq x y) ρ I L Q := fun a w ha hw => wp_seq (h a w ha hw)
theorem WC.skip (h : WX Γ .normal ρ I L Q) : WC Γ .skip ρ I L Q := fun a w ha hw => wp_skip (h a w ha hw)
theorem WC.label {l : Nat} (h : WX Γ .normal ρ I L Q) : WC Γ (.label l) ρ I L Q := fun a w ha hw => wp_label (h a w ha hw)
theorem WC.ret (h : WX Γ .ret ρ I L Q) : WC Γ .ret ρ I L Q := fun a w ha hw => wp_ret (h a w ha hw)
theorem WC.exit {id : Nat} (h : WX Γ (.exit id) ρ I L Q) : WC Γ (.exit id) ρ I L Q := fun a w ha hw => wp_exit (h a w ha hw)
theorem WC.block {id : Nat} {c : Code} (h : WC Γ c ρ I L (Exit.inBlock id Q)) : WC Γ (.block id c) ρ I L Q := fun a w ha hw => wp_block (h a w ha hw)
theorem WC.cond {c : Operand} {x y : Code} {t : Bool} (hc : ev ρ c = .bool t) (ht : t = true → WC Γ x ρ I L Q) (hf : t = false → WC Γ y ρ I L Q) : WC Γ (.cond c x y) ρ I L Q :=
  fun a w ha hw => wp_cond_split (by rw [ha.ev]; exact hc) (fun h => ht h a w ha hw) (fun h => hf h a w ha hw)
theorem WC.condT {c : Operand} {x y : Code} (hc : ev ρ c = .bool true) (ht : WC Γ x ρ I L Q) : WC Γ (.cond c x y) ρ I L Q :=
  fun a w ha hw => wp_cond_true (by rw [ha.ev]; exact hc) (ht a w ha hw)
theorem WC.condF {c : Operand} {x y : Code} (hc : ev ρ c = .bool false) (ht : WC Γ y ρ I L Q) : WC Γ (.cond c x y) ρ I L Q :=
  fun a w ha hw => wp_cond_false (by rw [ha.ev]; exact hc) (ht a w ha hw)

theorem WX.thenC {y : Code} (h : WC Γ y ρ I L Q) : WX Γ .normal ρ I L (Exit.then (y.wp Γ.P Q) Q) := h
theorem WX.thenK {K : Act → World → Prop} (h : WK Γ K ρ I L) : WX Γ .normal ρ I L (Exit.then K Q) := h
theorem WX.thenRet {K : Act → World → Prop} (h : WX Γ .ret ρ I L Q) : WX Γ .ret ρ I L (Exit.then K Q) := h
theorem WX.thenExit {K : Act → World → Prop} {id : Nat} (h : WX Γ (.exit id) ρ I L Q) : WX Γ (.exit id) ρ I L (Exit.then K Q) := h
theorem WX.inNormal {id : Nat} (h : WX Γ .normal ρ I L Q) : WX Γ .normal ρ I L (Exit.inBlock id Q) := h
theorem WX.inRet {id : Nat} (h : WX Γ .ret ρ I L Q) : WX Γ .ret ρ I L (Exit.inBlock id Q) := h
theorem WX.inHit {id : Nat} (h : WX Γ .normal ρ I L Q) : WX Γ (.exit id) ρ I L (Exit.inBlock id Q) := fun a w ha hw => by
  show (if id = id then _ else _); rw [if_pos rfl]; exact h a w ha hw
theorem WX.inPass {id j : Nat} (hj : Nat.beq j id = false) (h : WX Γ (.exit j) ρ I L Q) : WX Γ (.exit j) ρ I L (Exit.inBlock id Q) := fun a w ha hw => by
  show (if j = id then _ else _)
  rw [if_neg (fun e => by subst e; rw [Nat.beq_refl] at hj; cases hj)]; exact h a w ha hw

/-- The ways of a statement meet again. -/
theorem WC.cut {x y : Code} (mid : (Nat → Value) → Mem → List HP → Prop) (h : WC Γ x ρ I L (Exit.then (fun a w => ∃ ρ' I' L', mid ρ' I' L' ∧ Loc Γ.n ρ' a ∧ Sat Γ.E w I' L') Q))
    (k : ∀ ρ' I' L', mid ρ' I' L' → WC Γ y ρ' I' L' Q) : WC Γ (.seq x y) ρ I L Q :=
  WC.seq fun a w ha hw => wp_mono (h a w ha hw) fun e a w hq => by
    cases e with
    | normal => obtain ⟨ρ', I', L', hm, ha, hw⟩ := hq; exact k ρ' I' L' hm a w ha hw
    | _ => exact hq
theorem WC.cutP {x y : Code} (mid : (Nat → Value) → Mem → List HP → Prop) (h : WC Γ x ρ I L (Exit.then (fun a w => ∃ ρ' I' L', mid ρ' I' L' ∧ Loc Γ.n ρ' a ∧ Sat Γ.E w I' L') Q))
    (k : ∀ ρ' I' L', mid ρ' I' L' → WC Γ y ρ' I' L' Q) : WC Γ x ρ I L (Exit.then (y.wp Γ.P Q) Q) := fun a w ha hw => wp_mono (h a w ha hw) fun e a w hq => by
    cases e with
    | normal => obtain ⟨ρ', I', L', hm, ha, hw⟩ := hq; exact k ρ' I' L' hm a w ha hw
    | _ => exact hq
theorem WK.meet {mid : (Nat → Value) → Mem → List HP → Prop} (h : mid ρ I L) : WK Γ (fun a w => ∃ ρ' I' L', mid ρ' I' L' ∧ Loc Γ.n ρ' a ∧ Sat Γ.E w I' L') ρ I L :=
  fun a w ha hw => ⟨ρ, I, L, h, ha, hw⟩

/-- A loop, with a measure. -/
theorem WC.loop {c : Code} (inv : Nat → (Nat → Value) → Mem → List HP → Prop) (n : Nat) (h0 : inv n ρ I L)
    (round : ∀ n ρ I L, inv n ρ I L → WC Γ c ρ I L (Exit.then (fun a w => ∃ n' ρ' I' L', n' < n ∧ inv n' ρ' I' L' ∧ Loc Γ.n ρ' a ∧ Sat Γ.E w I' L') Q)) : WC Γ (.loop c) ρ I L Q := by
  have key : ∀ N m, m ≤ N → ∀ a w, (∃ ρ I L, inv m ρ I L ∧ Loc Γ.n ρ a ∧ Sat Γ.E w I L) → Code.rounds Γ.P c Q (N + 1) a w := by
    intro N
    induction N with
    | zero =>
      rintro m hm a w ⟨ρ, I, L, hi, ha, hw⟩
      rw [rounds_succ]
      refine wp_mono (round _ ρ I L hi a w ha hw) fun e a' w' hq => ?_
      cases e with
      | normal => obtain ⟨n', ρ', I', L', hlt, _⟩ := hq; omega
      | _ => exact hq
    | succ N ih =>
      rintro m hm a w ⟨ρ, I, L, hi, ha, hw⟩
      rw [rounds_succ]
      refine wp_mono (round _ ρ I L hi a w ha hw) fun e a' w' hq => ?_
      cases e with
      | normal =>
        obtain ⟨n', ρ', I', L', hlt, hi', ha', hw'⟩ := hq
        exact ih n' (by omega) a' w' ⟨ρ', I', L', hi', ha', hw'⟩
      | _ => exact hq
  exact fun a w ha hw => wp_loop_rounds (n + 1) (key n n (Nat.le_refl _) a w ⟨ρ, I, L, h0, ha, hw⟩)
theorem WK.round {n : Nat} {inv : Nat → (Nat → Value) → Mem → List HP → Prop} (n' : Nat) (hlt : n' < n) (h : inv n' ρ I L) :
    WK Γ (fun a w => ∃ n' ρ' I' L', n' < n ∧ inv n' ρ' I' L' ∧ Loc Γ.n ρ' a ∧ Sat Γ.E w I' L') ρ I L :=
  fun a w ha hw => ⟨n', ρ, I, L, hlt, h, ha, hw⟩
end
end Go.Sl
