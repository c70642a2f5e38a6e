/-
 A small separation logic over the kit's rules for code: an immutable heap I that only grows, and a list L of owned assertions with a frame.
-/
import Derived.Tactics
import Derived.OrdersHeld
import Derived.KernelRfl
import Derived.LoopN
import Derived.Laws.World
import Derived.Laws.Tables
import Derived.Laws.CopyRow
import Derived.Laws.Cells
import Derived.Laws.StandIn
import Derived.WalkKit
import Derived.Deep.AppendLies
import Derived.Deep.Upon
import Derived.Laws.OwnMore
import Derived.Laws.Entries
set_option linter.unusedVariables false
set_option linter.unusedSimpArgs false
set_option maxRecDepth 100000
set_option maxHeartbeats 8000000
namespace Go.Sl
abbrev Mem := Nat → Option Obj
def Mem.le (m m' : Mem) : Prop := ∀ b o, m b = some o → m' b = some o
def Mem.dis (m m' : Mem) : Prop := ∀ b, m b = none ∨ m' b = none
def Mem.un (m m' : Mem) : Mem := fun b => (m b).or (m' b)
def Mem.ins (m : Mem) (b : Nat) (o : Obj) : Mem := fun c => if c = b then some o else m c
def Mem.sing (b : Nat) (o : Obj) : Mem := fun c => if c = b then some o else none
abbrev HP := Mem → Prop
theorem Mem.le.refl (m : Mem) : m.le m := fun _ _ h => h
theorem Mem.le.trans {a b c : Mem} (h : a.le b) (k : b.le c) : a.le c := fun x o hx => k x o (h x o hx)
theorem Mem.le_none {a b : Mem} (h : a.le b) {x : Nat} (hx : b x = none) : a x = none := by
 cases ha : a x with
 | none => rfl
 | some o => rw [h x o ha] at hx; cases hx
theorem Mem.dis.symm {a b : Mem} (h : a.dis b) : b.dis a := fun x => (h x).symm
theorem Mem.dis.le {a b c d : Mem} (h : a.dis b) (hc : c.le a) (hd : d.le b) : c.dis d := fun x =>
 (h x).elim (fun h => .inl (Mem.le_none hc h)) (fun h => .inr (Mem.le_none hd h))
theorem Mem.le_un_left (a b : Mem) : a.le (a.un b) := fun x o h => by simp [Mem.un, h]
theorem Mem.le_un_right {a b : Mem} (h : a.dis b) : b.le (a.un b) := fun x o hx => by
 rcases h x with h | h
 ·simp [Mem.un, h, hx]
 ·rw [h] at hx; cases hx
theorem Mem.un_le {a b c : Mem} (h : a.le c) (k : b.le c) : (a.un b).le c := fun x o hx => by
 unfold Mem.un at hx
 cases ha : a x with
 | none => rw [ha] at hx; exact k x o (by simpa using hx)
 | some v => rw [ha] at hx; simp at hx; subst hx; exact h x v ha
theorem Mem.dis_un {a b c : Mem} (h : a.dis b) (k : a.dis c) : a.dis (b.un c) := fun x => by
 rcases h x with h | h
 ·exact .inl h
 ·rcases k x with k | k
  ·exact .inl k
  ·exact .inr (by simp [Mem.un, h, k])
def sts : List HP → HP
 | [], _ => True
 | p :: l, m => ∃ m1 m2 : Mem, m1.le m ∧ m2.le m ∧ m1.dis m2 ∧ p m1 ∧ sts l m2
theorem sts_mono {l : List HP} {m m' : Mem} (h : sts l m) (k : m.le m') : sts l m' := by
 cases l with
 | nil => trivial
 | cons p l => obtain ⟨m1, m2, h1, h2, h3, h4, h5⟩ := h; exact ⟨m1, m2, h1.trans k, h2.trans k, h3, h4, h5⟩
theorem sts_swap {p q : HP} {l : List HP} {m : Mem} (h : sts (p :: q :: l) m) : sts (q :: p :: l) m := by
 obtain ⟨m1, m2, h1, h2, h3, h4, m3, m4, h5, h6, h7, h8, h9⟩ := h
 refine ⟨m3, m1.un m4, h5.trans h2, Mem.un_le h1 (h6.trans h2), Mem.dis_un (h3.symm.le h5 (Mem.le.refl _)) h7, h8, m1, m4, Mem.le_un_left _ _, Mem.le_un_right (h3.le (Mem.le.refl _) h6), h3.le (Mem.le.refl _) h6, h4, h9⟩
theorem sts_perm {l l' : List HP} (hp : l.Perm l') : ∀ {m : Mem}, sts l m → sts l' m := by
 induction hp with
 | nil => exact fun h => h
 | cons p _ ih => exact fun ⟨m1, m2, h1, h2, h3, h4, h5⟩ => ⟨m1, m2, h1, h2, h3, h4, ih h5⟩
 | swap p q l => exact sts_swap
 | trans _ _ ih1 ih2 => exact fun h => ih2 (ih1 h)
theorem sts_append {l l' : List HP} : ∀ {m : Mem}, sts (l ++ l') m → ∃ m1 m2 : Mem, m1.le m ∧ m2.le m ∧ m1.dis m2 ∧ sts l m1 ∧ sts l' m2 := by
 induction l with
 | nil => exact fun {m} h => ⟨fun _ => none, m, fun _ _ h => (by cases h), Mem.le.refl _, fun _ => .inl rfl, trivial, h⟩
 | cons p l ih =>
  rintro m ⟨m1, m2, h1, h2, h3, h4, h5⟩
  obtain ⟨m3, m4, k1, k2, k3, k4, k5⟩ := ih h5
  exact ⟨m1.un m3, m4, Mem.un_le h1 (k1.trans h2), k2.trans h2, (Mem.dis_un (h3.le (Mem.le.refl _) k2).symm k3.symm).symm, ⟨m1, m3, Mem.le_un_left _ _, Mem.le_un_right (h3.le (Mem.le.refl _) k1), h3.le (Mem.le.refl _) k1, h4, k4⟩, k5⟩
theorem sts_app {l l' : List HP} : ∀ {m m1 m2 : Mem}, m1.le m → m2.le m → m1.dis m2 → sts l m1 → sts l' m2 → sts (l ++ l') m := by
 induction l with
 | nil => exact fun _ h2 _ _ h => sts_mono h h2
 | cons p l ih =>
  rintro m m1 m2 h1 h2 h3 ⟨m3, m4, k1, k2, k3, k4, k5⟩ h5
  refine ⟨m3, m4.un m2, k1.trans h1, Mem.un_le (k2.trans h1) h2, Mem.dis_un k3 (h3.le k1 (Mem.le.refl _)), k4, ih (Mem.le_un_left _ _) (Mem.le_un_right (h3.le k2 (Mem.le.refl _))) (h3.le k2 (Mem.le.refl _)) k5 h5⟩
theorem sts_fold {l l' : List HP} {m : Mem} (h : sts (l ++ l') m) : sts (sts l :: l') m := by
 obtain ⟨m1, m2, h1, h2, h3, h4, h5⟩ := sts_append h
 exact ⟨m1, m2, h1, h2, h3, h4, h5⟩
theorem sts_unfold {l l' : List HP} {m : Mem} (h : sts (sts l :: l') m) : sts (l ++ l') m := by
 obtain ⟨m1, m2, h1, h2, h3, h4, h5⟩ := h
 exact sts_app h1 h2 h3 h4 h5
structure Ev where
 tape : Nat → Question → Nat
 os : Os
 output : Array (Nat × ByteArray)
structure Sat (E : Ev) (w : World) (I : Mem) (L : List HP) : Prop where
 tape : w.tape = E.tape
 os : w.os = E.os
 output : w.output = E.output
 imm : ∀ b o, I b = some o → w.heap[b]? = some o
 own : ∃ m : Mem, (∀ b o, m b = some o → w.heap[b]? = some o) ∧ I.dis m ∧ sts L m
section
variable {E : Ev} {w : World} {I : Mem} {L L' : List HP}
theorem Sat.perm (h : Sat E w I L) (hp : L.Perm L') : Sat E w I L' :=
 ⟨h.tape, h.os, h.output, h.imm, let ⟨m, a, b, c⟩ := h.own; ⟨m, a, b, sts_perm hp c⟩⟩
theorem Sat.imp (h : Sat E w I L) (hp : ∀ m, sts L m → sts L' m) : Sat E w I L' :=
 ⟨h.tape, h.os, h.output, h.imm, let ⟨m, a, b, c⟩ := h.own; ⟨m, a, b, hp m c⟩⟩
def pt (b : Nat) (o : Obj) : HP := fun m => m b = some o
theorem Sat.head {p : HP} (h : Sat E w I (p :: L)) : ∃ m : Mem, (∀ b o, m b = some o → w.heap[b]? = some o) ∧ p m := by
 obtain ⟨m, a, _, m1, m2, h1, h2, h3, h4, h5⟩ := h.own
 exact ⟨m1, fun b o hb => a b o (h1 b o hb), h4⟩
theorem Sat.look {b : Nat} {o : Obj} (h : Sat E w I (pt b o :: L)) : w.heap[b]? = some o := by
 obtain ⟨m, a, hp⟩ := h.head
 exact a b o hp
theorem Mem.lt_of {m : Mem} (h : ∀ b o, m b = some o → w.heap[b]? = some o) {b : Nat} {o : Obj} (hb : m b = some o) : b < w.heap.size :=
 (Array.getElem?_eq_some_iff.1 (h b o hb)).1
theorem Sat.alloc (h : Sat E w I L) (o : Obj) : Sat E { w with heap := w.heap.push o } I (L ++ [pt w.heap.size o]) := by
 obtain ⟨m, a, b, c⟩ := h.own
 have keep : ∀ {m : Mem}, (∀ b o, m b = some o → w.heap[b]? = some o) → ∀ k x, m k = some x → (w.heap.push o)[k]? = some x := fun hm k x hk => by
  have := Mem.lt_of hm hk
  rw [Array.getElem?_push, if_neg (by omega)]
  exact hm k x hk
 have nw : m w.heap.size = none := by
  cases hm : m w.heap.size with
  | none => rfl
  | some x => exact absurd (Mem.lt_of a hm) (by omega)
 have nI : I w.heap.size = none := by
  cases hm : I w.heap.size with
  | none => rfl
  | some x => exact absurd (Mem.lt_of h.imm hm) (by omega)
 have hd : m.dis (Mem.sing w.heap.size o) := fun k => by
  by_cases hk : k = w.heap.size
  ·subst hk; exact .inl nw
  ·exact .inr (by simp [Mem.sing, hk])
 refine ⟨h.tape, h.os, h.output, keep h.imm, m.un (Mem.sing w.heap.size o), ?_, ?_, ?_⟩
 ·intro k x hk
  unfold Mem.un at hk
  cases hm : m k with
  | some y => rw [hm] at hk; simp at hk; subst hk; exact keep a k y hm
  | none =>
   rw [hm] at hk
   simp [Mem.sing] at hk
   obtain ⟨rfl, rfl⟩ := hk
   simp
 ·refine Mem.dis_un b fun k => ?_
  by_cases hk : k = w.heap.size
  ·subst hk; exact .inl nI
  ·exact .inr (by simp [Mem.sing, hk])
 ·exact sts_app (Mem.le_un_left _ _) (Mem.le_un_right hd) hd c ⟨Mem.sing w.heap.size o, fun _ => none, Mem.le.refl _, fun _ _ h => (by cases h), fun _ => .inr rfl, by simp [pt, Mem.sing], trivial⟩
theorem Sat.write {b : Nat} {o : Obj} (h : Sat E w I (pt b o :: L)) (o' : Obj) (heap' : Array Obj) (h1 : heap'[b]? = some o') (h2 : ∀ k, k ≠ b → heap'[k]? = w.heap[k]?) :
  Sat E { w with heap := heap' } I (pt b o' :: L) := by
 obtain ⟨m, a, d, m1, m2, e1, e2, e3, e4, e5⟩ := h.own
 have hb : m1 b = some o := e4
 have hmb : m b = some o := e1 b o hb
 have hI : I b = none := (d b).elim id (fun h => by rw [hmb] at h; cases h)
 have h2b : m2 b = none := (e3 b).elim (fun h => by rw [hb] at h; cases h) id
 refine ⟨h.tape, h.os, h.output, fun k x hk => ?_, (Mem.sing b o').un m2, ?_, ?_, ⟨Mem.sing b o', m2, Mem.le_un_left _ _, Mem.le_un_right ?_, ?_, by simp [pt, Mem.sing], e5⟩⟩
 ·have : k ≠ b := fun e => by subst e; rw [hI] at hk; cases hk
  exact (h2 k this).trans (h.imm k x hk)
 ·intro k x hk
  unfold Mem.un Mem.sing at hk
  by_cases hkb : k = b
  ·subst hkb; simp at hk; subst hk; exact h1
  ·simp [hkb] at hk
   exact (h2 k hkb).trans (a k x (e2 k x hk))
 ·refine Mem.dis_un (fun k => ?_) (d.le (Mem.le.refl _) e2)
  by_cases hkb : k = b
  ·subst hkb; exact .inl hI
  ·exact .inr (by simp [Mem.sing, hkb])
 all_goals
  intro k
  by_cases hkb : k = b
  ·subst hkb; exact .inr h2b
  ·exact .inl (by simp [Mem.sing, hkb])
theorem Sat.freeze {b : Nat} {o : Obj} (h : Sat E w I (pt b o :: L)) : Sat E w (I.ins b o) L ∧ I.le (I.ins b o) := by
 obtain ⟨m, a, d, m1, m2, e1, e2, e3, e4, e5⟩ := h.own
 have hb : m1 b = some o := e4
 have hmb : m b = some o := e1 b o hb
 have hI : I b = none := (d b).elim id (fun h => by rw [hmb] at h; cases h)
 have h2b : m2 b = none := (e3 b).elim (fun h => by rw [hb] at h; cases h) id
 refine ⟨⟨h.tape, h.os, h.output, fun k x hk => ?_, m2, fun k x hk => a k x (e2 k x hk), fun k => ?_, e5⟩, fun k x hk => ?_⟩
 ·unfold Mem.ins at hk
  by_cases hkb : k = b
  ·subst hkb; simp at hk; subst hk; exact a _ _ hmb
  ·simp [hkb] at hk; exact h.imm k x hk
 ·by_cases hkb : k = b
  ·subst hkb; exact .inr h2b
  ·refine (d.le (Mem.le.refl _) e2 k).imp (fun h => by simp [Mem.ins, hkb, h]) id
 ·have : k ≠ b := fun e => by subst e; rw [hI] at hk; cases hk
  simp [Mem.ins, this, hk]
theorem Sat.drew (h : Sat E w I L) : Sat E { w with drawn := w.drawn + 1 } I L := ⟨h.tape, h.os, h.output, h.imm, h.own⟩
end
/-! ### Environments, goals -/
def upd (ρ : Nat → Value) (d : Nat) (v : Value) : Nat → Value := fun t => bif Nat.beq t d then v else ρ t
theorem upd_self {ρ : Nat → Value} {d : Nat} {v : Value} (h : ρ d = v) : upd ρ d v = ρ := by
 funext t
 unfold upd
 cases hb : Nat.beq t d with
 | false => rfl
 | true => rw [Nat.eq_of_beq_eq_true hb, h]; rfl
def argρ : List Value → Nat → Value
 | [], _ => undef
 | v :: _, 0 => v
 | _ :: l, t + 1 => argρ l t
def ev (ρ : Nat → Value) : Operand → Value
 | .tmp t => ρ t
 | .const v => v
 | .global g => .pointer (some ⟨g, 0, none⟩)
 | .func f => .func (.func f) #[] #[]
structure Loc (n : Nat) (ds : List Deferred) (ρ : Nat → Value) (a : Act) : Prop where
 defers : a.defers = ds
 size : a.tmps.size = n
 get : ∀ t, a.tmps.getD t undef = ρ t
theorem Loc.ev {n : Nat} {ds : List Deferred} {ρ : Nat → Value} {a : Act} (h : Loc n ds ρ a) : a.eval = Sl.ev ρ := by
 funext x
 cases x with
 | tmp t => exact h.get t
 | _ => rfl
theorem Loc.put {n : Nat} {ds : List Deferred} {ρ : Nat → Value} {a : Act} (h : Loc n ds ρ a) {d : Nat} (hd : Nat.blt d n = true) (v : Value) : Loc n ds (upd ρ d v) (a.put (some d) v) := by
 have hd' : d < n := by have : Nat.ble (d + 1) n = true := hd; exact Nat.le_of_ble_eq_true this
 refine ⟨h.defers, by simp [Act.put, h.size], fun t => ?_⟩
 have := h.get t
 simp only [Array.getD_eq_getD_getElem?] at *
 simp only [Act.put, upd, Array.getElem?_setIfInBounds]
 by_cases ht : d = t
 ·subst ht; simp [h.size, hd', Nat.beq_refl]
 ·have h2 : Nat.beq t d = false := by
   cases hb : Nat.beq t d with
   | false => rfl
   | true => exact absurd (Nat.eq_of_beq_eq_true hb).symm ht
  simp [ht, h2, this]
theorem argρ_get (l : List Value) (t : Nat) : argρ l t = l.getD t undef := by
 induction l generalizing t with
 | nil => simp [argρ]
 | cons v l ih => cases t with
  | zero => simp [argρ]
  | succ t => simp only [argρ, ih]; simp
theorem Loc.start {n : Nat} {args : List Value} (h : args.length ≤ n) : Loc n [] (argρ args) { tmps := args.toArray ++ Array.replicate (n - args.toArray.size) undef, defers := [] } := by
 refine ⟨rfl, by simp; omega, fun t => ?_⟩
 rw [argρ_get, Array.getD_eq_getD_getElem?, Array.getElem?_append]
 by_cases ht : t < args.length
 ·simp [ht]
 ·simp only [List.size_toArray, ht, if_false]
  rw [List.getD_eq_getElem?_getD, List.getElem?_eq_none (by omega)]
  by_cases h2 : t - args.length < n - args.length
  ·simp [Array.getElem?_replicate, h2]
  ·simp [Array.getElem?_replicate, h2]
structure Cx where
 P : Program
 E : Ev
 n : Nat
 ds : List Deferred
abbrev Post := Exit → Act → World → Prop
def WX (Γ : Cx) (e : Exit) (ρ : Nat → Value) (I : Mem) (L : List HP) (Q : Post) : Prop := ∀ a w, Loc Γ.n Γ.ds ρ a → Sat Γ.E w I L → Q e a w
def WC (Γ : Cx) (c : Code) (ρ : Nat → Value) (I : Mem) (L : List HP) (Q : Post) : Prop := ∀ a w, Loc Γ.n Γ.ds ρ a → Sat Γ.E w I L → c.wp Γ.P Q a w
def WL (Γ : Cx) (ops : Array Oper) (l : List Oper) (ρ : Nat → Value) (I : Mem) (L : List HP) (Q : Post) : Prop := ∀ a w, Loc Γ.n Γ.ds ρ a → Sat Γ.E w I L → wpList Γ.P ops Q l a w
def WK (Γ : Cx) (K : Act → World → Prop) (ρ : Nat → Value) (I : Mem) (L : List HP) : Prop := ∀ a w, Loc Γ.n Γ.ds ρ a → Sat Γ.E w I L → K a w
section
variable {Γ : Cx} {ρ : Nat → Value} {I : Mem} {L : List HP} {Q : Post}
theorem WC.region {id : Nat} {l : List Oper} (h : WL Γ l.toArray l ρ I L Q) : WC Γ (.region id l.toArray false) ρ I L Q :=
 fun a w ha hw => wp_region_list (by simpa using h a w ha hw)
theorem WL.nil {ops : Array Oper} (h : WX Γ .normal ρ I L Q) : WL Γ ops [] ρ I L Q := h
theorem WC.seq {x y : Code} (h : WC Γ x ρ I L (Exit.then (y.wp Γ.P Q) Q)) : WC Γ (.seq x y) ρ I L Q := fun a w ha hw => wp_seq (h a w ha hw)
theorem WC.skip (h : WX Γ .normal ρ I L Q) : WC Γ .skip ρ I L Q := fun a w ha hw => wp_skip (h a w ha hw)
theorem WC.ret (h : WX Γ .ret ρ I L Q) : WC Γ .ret ρ I L Q := fun a w ha hw => wp_ret (h a w ha hw)
theorem WC.exit {id : Nat} (h : WX Γ (.exit id) ρ I L Q) : WC Γ (.exit id) ρ I L Q := fun a w ha hw => wp_exit (h a w ha hw)
theorem WC.block {id : Nat} {c : Code} (h : WC Γ c ρ I L (Exit.inBlock id Q)) : WC Γ (.block id c) ρ I L Q := fun a w ha hw => wp_block (h a w ha hw)
theorem WC.cond {c : Operand} {x y : Code} {t : Bool} (hc : ev ρ c = .bool t) (ht : t = true → WC Γ x ρ I L Q) (hf : t = false → WC Γ y ρ I L Q) : WC Γ (.cond c x y) ρ I L Q :=
 fun a w ha hw => wp_cond_split (by rw [ha.ev]; exact hc) (fun h => ht h a w ha hw) (fun h => hf h a w ha hw)
theorem WC.condT {c : Operand} {x y : Code} (hc : ev ρ c = .bool true) (ht : WC Γ x ρ I L Q) : WC Γ (.cond c x y) ρ I L Q :=
 fun a w ha hw => wp_cond_true (by rw [ha.ev]; exact hc) (ht a w ha hw)
theorem WC.condF {c : Operand} {x y : Code} (hc : ev ρ c = .bool false) (ht : WC Γ y ρ I L Q) : WC Γ (.cond c x y) ρ I L Q :=
 fun a w ha hw => wp_cond_false (by rw [ha.ev]; exact hc) (ht a w ha hw)
theorem WX.thenC {y : Code} (h : WC Γ y ρ I L Q) : WX Γ .normal ρ I L (Exit.then (y.wp Γ.P Q) Q) := h
theorem WX.thenK {K : Act → World → Prop} (h : WK Γ K ρ I L) : WX Γ .normal ρ I L (Exit.then K Q) := h
theorem WX.thenRet {K : Act → World → Prop} (h : WX Γ .ret ρ I L Q) : WX Γ .ret ρ I L (Exit.then K Q) := h
theorem WX.thenExit {K : Act → World → Prop} {id : Nat} (h : WX Γ (.exit id) ρ I L Q) : WX Γ (.exit id) ρ I L (Exit.then K Q) := h
theorem WX.inNormal {id : Nat} (h : WX Γ .normal ρ I L Q) : WX Γ .normal ρ I L (Exit.inBlock id Q) := h
theorem WX.inRet {id : Nat} (h : WX Γ .ret ρ I L Q) : WX Γ .ret ρ I L (Exit.inBlock id Q) := h
theorem WX.inHit {id : Nat} (h : WX Γ .normal ρ I L Q) : WX Γ (.exit id) ρ I L (Exit.inBlock id Q) := fun a w ha hw => by
 show (if id = id then _ else _); rw [if_pos rfl]; exact h a w ha hw
theorem WC.cut {x y : Code} (mid : (Nat → Value) → Mem → List HP → Prop) (h : WC Γ x ρ I L (Exit.then (fun a w => ∃ ρ' I' L', mid ρ' I' L' ∧ Loc Γ.n Γ.ds ρ' a ∧ Sat Γ.E w I' L') Q))
  (k : ∀ ρ' I' L', mid ρ' I' L' → WC Γ y ρ' I' L' Q) : WC Γ (.seq x y) ρ I L Q :=
 WC.seq fun a w ha hw => wp_mono (h a w ha hw) fun e a w hq => by
  cases e with
  | normal => obtain ⟨ρ', I', L', hm, ha, hw⟩ := hq; exact k ρ' I' L' hm a w ha hw
  | _ => exact hq
theorem WC.cutP {x y : Code} (mid : (Nat → Value) → Mem → List HP → Prop) (h : WC Γ x ρ I L (Exit.then (fun a w => ∃ ρ' I' L', mid ρ' I' L' ∧ Loc Γ.n Γ.ds ρ' a ∧ Sat Γ.E w I' L') Q))
  (k : ∀ ρ' I' L', mid ρ' I' L' → WC Γ y ρ' I' L' Q) : WC Γ x ρ I L (Exit.then (y.wp Γ.P Q) Q) := fun a w ha hw => wp_mono (h a w ha hw) fun e a w hq => by
  cases e with
  | normal => obtain ⟨ρ', I', L', hm, ha, hw⟩ := hq; exact k ρ' I' L' hm a w ha hw
  | _ => exact hq
theorem WK.meet {mid : (Nat → Value) → Mem → List HP → Prop} (h : mid ρ I L) : WK Γ (fun a w => ∃ ρ' I' L', mid ρ' I' L' ∧ Loc Γ.n Γ.ds ρ' a ∧ Sat Γ.E w I' L') ρ I L :=
 fun a w ha hw => ⟨ρ, I, L, h, ha, hw⟩
theorem WC.loop {c : Code} (inv : Nat → (Nat → Value) → Mem → List HP → Prop) (n : Nat) (h0 : inv n ρ I L)
  (round : ∀ n ρ I L, inv n ρ I L → WC Γ c ρ I L (Exit.then (fun a w => ∃ n' ρ' I' L', n' < n ∧ inv n' ρ' I' L' ∧ Loc Γ.n Γ.ds ρ' a ∧ Sat Γ.E w I' L') Q)) : WC Γ (.loop c) ρ I L Q := by
 have key : ∀ N m, m ≤ N → ∀ a w, (∃ ρ I L, inv m ρ I L ∧ Loc Γ.n Γ.ds ρ a ∧ Sat Γ.E w I L) → Code.rounds Γ.P c Q (N + 1) a w := by
  intro N
  induction N with
  | zero =>
   rintro m hm a w ⟨ρ, I, L, hi, ha, hw⟩
   rw [rounds_succ]
   refine wp_mono (round _ ρ I L hi a w ha hw) fun e a' w' hq => ?_
   cases e with
   | normal => obtain ⟨n', ρ', I', L', hlt, _⟩ := hq; omega
   | _ => exact hq
  | succ N ih =>
   rintro m hm a w ⟨ρ, I, L, hi, ha, hw⟩
   rw [rounds_succ]
   refine wp_mono (round _ ρ I L hi a w ha hw) fun e a' w' hq => ?_
   cases e with
   | normal =>
    obtain ⟨n', ρ', I', L', hlt, hi', ha', hw'⟩ := hq
    exact ih n' (by omega) a' w' ⟨ρ', I', L', hi', ha', hw'⟩
   | _ => exact hq
 exact fun a w ha hw => wp_loop_rounds (n + 1) (key n n (Nat.le_refl _) a w ⟨ρ, I, L, h0, ha, hw⟩)
theorem WK.round {n : Nat} {inv : Nat → (Nat → Value) → Mem → List HP → Prop} (n' : Nat) (hlt : n' < n) (h : inv n' ρ I L) :
  WK Γ (fun a w => ∃ n' ρ' I' L', n' < n ∧ inv n' ρ' I' L' ∧ Loc Γ.n Γ.ds ρ' a ∧ Sat Γ.E w I' L') ρ I L :=
 fun a w ha hw => ⟨n', ρ, I, L, hlt, h, ha, hw⟩
end
end Go.Sl

namespace Go.Sl
/-! ### Facts on types, found by their numbers -/
def tyk (P : Program) (t : Nat) : Option (Bool × Nat) :=
 match P.underlying t, P.info? t with
 | some (.struct _), some i => some (true, i.size)
 | some (.array _ _), some i => some (true, i.size)
 | some _, some i => some (false, i.size)
 | _, _ => none
class TyK (P : Program) (t : Nat) (agg : outParam Bool) (n : outParam Nat) : Prop where
 is : tyk P t = some (agg, n)
theorem TyK.und {P : Program} {t : Nat} {g : Bool} {n : Nat} (h : tyk P t = some (g, n)) : ∃ d i, P.underlying t = some d ∧ P.info? t = some i ∧ i.size = n ∧
  (g = (match d with | .struct _ => true | .array _ _ => true | _ => false)) := by
 unfold tyk at h
 cases hd : P.underlying t with
 | none => rw [hd] at h; simp at h
 | some d => cases hi : P.info? t with
  | none => rw [hd, hi] at h; cases d <;> simp at h
  | some i => refine ⟨d, i, rfl, rfl, ?_⟩; rw [hd, hi] at h; cases d <;> simp at h <;> simp [h]
theorem TyK.size {P : Program} {t : Nat} {g : Bool} {n : Nat} (h : tyk P t = some (g, n)) (w : World) : (sizeOf t).run P w = .ok n w := by
 obtain ⟨d, i, _, hi, hn, _⟩ := TyK.und h
 rw [run_sizeOf w hi]
 simp [Program.cellsOf, hi, hn]
theorem TyK.agg {P : Program} {t : Nat} {g : Bool} {n : Nat} (h : tyk P t = some (g, n)) (w : World) : (isAgg t).run P w = .ok g w := by
 obtain ⟨d, i, hd, _, _, rfl⟩ := TyK.und h
 unfold isAgg
 rw [Sem.run_bind, run_underlying hd]
 cases d <;> rfl
def zeroK (P : Program) (t : Nat) : Option (List Value) := (P.info? t).bind fun i => i.zero.map fun z => z.cells.toList
class ZeroK (P : Program) (t : Nat) (zs : outParam (List Value)) : Prop where
 is : zeroK P t = some zs
theorem ZeroK.run {P : Program} {t : Nat} {zs : List Value} (h : zeroK P t = some zs) (w : World) : ∃ z, (zeroValue t).run P w = .ok z w ∧ z.cells = zs.toArray := by
 unfold zeroK at h
 cases hi : P.info? t with
 | none => rw [hi] at h; cases h
 | some i => cases hz : i.zero with
  | none => rw [hi] at h; simp [hz] at h
  | some z =>
   rw [hi] at h; simp [hz] at h
   refine ⟨z, ?_, by rw [← h]⟩
   unfold zeroValue
   rw [Sem.run_bind, run_typeInfo w hi]
   simp [hz, Result.andThen]
def fldK (P : Program) (s f : Nat) : Option (Nat × Nat × Bool × Nat) :=
 match P.underlying s with
 | some (.struct fs) => (fs[f]?).bind fun x => (tyk P x.type).bind fun (g, n) => if n = 0 then none else some (x.offset, x.type, g, n)
 | _ => none
class FldK (P : Program) (s f : Nat) (off : outParam Nat) (g : outParam Bool) (n : outParam Nat) : Prop where
 is : (fldK P s f).map (fun x => (x.1, x.2.2)) = some (off, g, n)
theorem FldK.und {P : Program} {s f off n : Nat} {g : Bool} (h : (fldK P s f).map (fun x => (x.1, x.2.2)) = some (off, g, n)) :
  ∃ fs x, P.underlying s = some (.struct fs) ∧ fs[f]? = some x ∧ x.offset = off ∧ tyk P x.type = some (g, n) ∧ n ≠ 0 := by
 unfold fldK at h
 split at h
 ·rename_i fs hfs
  cases hx : fs[f]? with
  | none => simp [hx] at h
  | some x =>
   cases ht : tyk P x.type with
   | none => simp [hx, ht] at h
   | some gn =>
    obtain ⟨g', n'⟩ := gn
    by_cases hn : n' = 0
    ·simp [hx, ht, hn] at h
    ·simp [hx, ht, hn] at h
     obtain ⟨rfl, rfl, rfl⟩ := h
     exact ⟨fs, x, hfs, hx, rfl, ht, hn⟩
 ·cases h
def slk (P : Program) (t : Nat) : Option (Nat × Nat) :=
 match P.underlying t with
 | some (.slice e) => (P.info? e).map fun i => (e, i.size)
 | _ => none
class SlK (P : Program) (t : Nat) (e : outParam Nat) (n : outParam Nat) : Prop where
 is : slk P t = some (e, n)
theorem SlK.und {P : Program} {t e n : Nat} (h : slk P t = some (e, n)) : P.underlying t = some (.slice e) ∧ (∃ i, P.info? e = some i ∧ i.size = n) := by
 unfold slk at h
 split at h
 ·rename_i e' he
  cases hi : P.info? e' with
  | none => rw [hi] at h; cases h
  | some i => rw [hi] at h; simp at h; obtain ⟨rfl, rfl⟩ := h; exact ⟨he, i, hi, rfl⟩
 ·cases h
def ark (P : Program) (t : Nat) : Option (Nat × Nat × Bool × Nat) :=
 match P.underlying t with
 | some (.array l e) => (tyk P e).map fun (g, n) => (l, e, g, n)
 | _ => none
class ArK (P : Program) (t : Nat) (l : outParam Nat) (g : outParam Bool) (n : outParam Nat) : Prop where
 is : (ark P t).map (fun x => (x.1, x.2.2)) = some (l, g, n)
theorem ArK.und {P : Program} {t l n : Nat} {g : Bool} (h : (ark P t).map (fun x => (x.1, x.2.2)) = some (l, g, n)) :
  ∃ e, P.underlying t = some (.array l e) ∧ tyk P e = some (g, n) := by
 unfold ark at h
 split at h
 ·rename_i l' e he
  cases hk : tyk P e with
  | none => simp [hk] at h
  | some gn => obtain ⟨g', n'⟩ := gn; simp [hk] at h; obtain ⟨rfl, rfl, rfl⟩ := h; exact ⟨e, he, hk⟩
 ·cases h
/-! ### Reading -/
def Rd (I : Mem) (L : List HP) (b off : Nat) (cs : List Value) : Prop :=
 ∀ (E : Ev) (w : World), Sat E w I L → ∀ j v, cs[j]? = some v → w.cell? ⟨b, off + j, none⟩ = some v
def At (I : Mem) (b off : Nat) (cs : List Value) : Prop := ∃ c ty fr, I b = some (.cells c ty fr) ∧ ∀ j v, cs[j]? = some v → c[off + j]? = some v
theorem At.mono {I I' : Mem} {b off : Nat} {cs : List Value} (h : At I b off cs) (hI : I.le I') : At I' b off cs := by
 obtain ⟨c, ty, fr, h1, h2⟩ := h
 exact ⟨c, ty, fr, hI _ _ h1, h2⟩
theorem At.one {I : Mem} {b off : Nat} {cs : List Value} {k : Nat} {v : Value} (h : At I b off cs) (hv : cs[k]? = some v) : At I b (off + k) [v] := by
 obtain ⟨c, ty, fr, h1, h2⟩ := h
 refine ⟨c, ty, fr, h1, fun j u hj => ?_⟩
 cases j with
 | zero => simp at hj; subst hj; exact h2 k _ hv
 | succ j => simp at hj
theorem At.sub {I : Mem} {b off : Nat} {cs vs : List Value} {k : Nat} (n : Nat) (h : At I b off cs) (hv : (cs.drop k).take n = vs) : At I b (off + k) vs := by
 obtain ⟨c, ty, fr, h1, h2⟩ := h
 refine ⟨c, ty, fr, h1, fun j u hj => ?_⟩
 rw [← hv, List.getElem?_take] at hj
 split at hj
 ·rw [List.getElem?_drop] at hj; rw [Nat.add_assoc]; exact h2 _ _ hj
 ·cases hj
theorem Rd.imm {I : Mem} {L : List HP} {b off : Nat} {cs : List Value} (h : At I b off cs) : Rd I L b off cs := by
 intro E w hw j v hj
 obtain ⟨c, ty, fr, h1, h2⟩ := h
 have := hw.imm _ _ h1
 simp only [World.cell?, this, Option.isSome_none, Bool.false_eq_true, if_false]
 exact h2 j v hj
def box (b ty : Nat) (cs : List Value) : HP := pt b (.cells cs.toArray ty (0, 0))
theorem pull {α : Type} : ∀ (k : Nat) (L : List α) (p : α), L[k]? = some p → L.Perm (p :: L.eraseIdx k)
 | 0, a :: L, p, h => by simp at h; subst h; exact List.Perm.refl _
 | k + 1, a :: L, p, h => by
  simp only [List.getElem?_cons_succ] at h
  exact ((pull k L p h).cons a).trans (List.Perm.swap _ _ _)
 | k, [], p, h => by simp at h
theorem push_back {α : Type} : ∀ (k : Nat) (L : List α) (p q : α), L[k]? = some p → (q :: L.eraseIdx k).Perm (L.set k q)
 | 0, a :: L, p, q, h => List.Perm.refl _
 | k + 1, a :: L, p, q, h => by
  simp only [List.getElem?_cons_succ] at h
  exact (List.Perm.swap _ _ _).trans ((push_back k L p q h).cons a)
 | k, [], p, q, h => by simp at h
section
variable {E : Ev} {w : World} {I : Mem} {L : List HP}
theorem Sat.lookK {k b : Nat} {o : Obj} (h : Sat E w I L) (hk : L[k]? = some (pt b o)) : w.heap[b]? = some o := (h.perm (pull k L _ hk)).look
theorem Sat.writeK {k b : Nat} {o : Obj} (h : Sat E w I L) (hk : L[k]? = some (pt b o)) (o' : Obj) (heap' : Array Obj) (h1 : heap'[b]? = some o') (h2 : ∀ j, j ≠ b → heap'[j]? = w.heap[j]?) :
  Sat E { w with heap := heap' } I (L.set k (pt b o')) :=
 ((h.perm (pull k L _ hk)).write o' heap' h1 h2).perm (push_back k L _ _ hk)
theorem Sat.freezeK {k b : Nat} {o : Obj} (h : Sat E w I L) (hk : L[k]? = some (pt b o)) : Sat E w (I.ins b o) (L.eraseIdx k) ∧ I.le (I.ins b o) :=
 (h.perm (pull k L _ hk)).freeze
end
theorem Rd.own {I : Mem} {L : List HP} {b ty : Nat} {cs : List Value} (k : Nat) (hk : L[k]? = some (box b ty cs)) (off : Nat) (vs : List Value)
  (hv : ∀ j v, vs[j]? = some v → cs[off + j]? = some v) : Rd I L b off vs := by
 intro E w hw j v hj
 have := hw.lookK hk
 simp only [World.cell?, this, Option.isSome_none, Bool.false_eq_true, if_false]
 simpa using hv j v hj
theorem Rd.own1 {I : Mem} {L : List HP} {b ty off : Nat} {cs : List Value} {v : Value} (k : Nat) (hk : L[k]? = some (box b ty cs)) (hv : cs[off]? = some v) : Rd I L b off [v] :=
 Rd.own k hk off [v] fun j u hj => by
  cases j with
  | zero => simp at hj; subst hj; exact hv
  | succ j => simp at hj
theorem Rd.ownN {I : Mem} {L : List HP} {b ty off : Nat} {cs vs : List Value} (n : Nat) (k : Nat) (hk : L[k]? = some (box b ty cs)) (hv : (cs.drop off).take n = vs) : Rd I L b off vs :=
 Rd.own k hk off vs fun j u hj => by
  rw [← hv, List.getElem?_take] at hj
  split at hj
  ·rwa [List.getElem?_drop] at hj
  ·cases hj
theorem addr_add (b off j : Nat) : (⟨b, off, none⟩ : Addr).add j = ⟨b, off + j, none⟩ := by
 unfold Addr.add
 split
 ·subst_vars; rfl
 ·rfl
/-! ### The list of operations -/
section
variable {Γ : Cx} {ops : Array Oper} {rest : List Oper} {ρ : Nat → Value} {I : Mem} {L : List HP} {Q : Post} {ty : TypeId} {ps : String} {af : Array Edge}
def Val (Γ : Cx) (ρ : Nat → Value) (I : Mem) (L : List HP) (op : Op) (ty : TypeId) (v : Value) : Prop :=
 ∀ w, Sat Γ.E w I L → (execOp (ev ρ) { dst := none, op := op, type := ty, pos := "", after := #[], guard := none }).run Γ.P w = .ok (.value v) w
theorem WL.val {d : Nat} {op : Op} {v : Value} (hrun : Val Γ ρ I L op ty v)
  (hd : Nat.blt d Γ.n = true) (next : WL Γ ops rest (upd ρ d v) I L Q) : WL Γ ops ({ dst := some d, op := op, type := ty, pos := ps, after := af, guard := none } :: rest) ρ I L Q := by
 intro a w ha hw
 simp only [wpList, Region.wanted, if_true]
 refine .inl ?_
 unfold Oper.wp
 rw [ha.ev, show (execOp (ev ρ) { dst := some d, op := op, type := ty, pos := ps, after := af, guard := none }).run Γ.P w = .ok (.value v) w from hrun w hw]
 exact next _ w (ha.put hd v) hw
theorem WL.eff {d : Nat} {op : Op} {I' : Mem} {L' : List HP} {v : Value} (hrun : ∀ w, Sat Γ.E w I L → ∃ w', (execOp (ev ρ) { dst := some d, op := op, type := ty, pos := ps, after := af, guard := none }).run Γ.P w = .ok (.value v) w' ∧ Sat Γ.E w' I' L')
  (hd : Nat.blt d Γ.n = true) (next : WL Γ ops rest (upd ρ d v) I' L' Q) : WL Γ ops ({ dst := some d, op := op, type := ty, pos := ps, after := af, guard := none } :: rest) ρ I L Q := by
 intro a w ha hw
 simp only [wpList, Region.wanted, if_true]
 refine .inl ?_
 unfold Oper.wp
 obtain ⟨w', hr, hw'⟩ := hrun w hw
 rw [ha.ev, hr]
 exact next _ w' (ha.put hd v) hw'
theorem WL.effX {d : Nat} {op : Op} (hrun : ∀ w, Sat Γ.E w I L → ∃ v w' I' L', (execOp (ev ρ) { dst := some d, op := op, type := ty, pos := ps, after := af, guard := none }).run Γ.P w = .ok (.value v) w' ∧ Sat Γ.E w' I' L' ∧
   WL Γ ops rest (upd ρ d v) I' L' Q)
  (hd : Nat.blt d Γ.n = true) : WL Γ ops ({ dst := some d, op := op, type := ty, pos := ps, after := af, guard := none } :: rest) ρ I L Q := by
 intro a w ha hw
 simp only [wpList, Region.wanted, if_true]
 refine .inl ?_
 unfold Oper.wp
 obtain ⟨v, w', I', L', hr, hw', next⟩ := hrun w hw
 rw [ha.ev, hr]
 exact next _ w' (ha.put hd v) hw'
theorem WL.effN {op : Op} {I' : Mem} {L' : List HP} (hrun : ∀ w, Sat Γ.E w I L → ∃ w', (execOp (ev ρ) { dst := none, op := op, type := ty, pos := ps, after := af, guard := none }).run Γ.P w = .ok .skip w' ∧ Sat Γ.E w' I' L')
  (next : WL Γ ops rest ρ I' L' Q) : WL Γ ops ({ dst := none, op := op, type := ty, pos := ps, after := af, guard := none } :: rest) ρ I L Q := by
 intro a w ha hw
 simp only [wpList, Region.wanted, if_true]
 refine .inl ?_
 unfold Oper.wp
 obtain ⟨w', hr, hw'⟩ := hrun w hw
 rw [ha.ev, hr]
 exact next _ w' ha hw'
theorem Loc.yield {n : Nat} {ds : List Deferred} {ρ : Nat → Value} {a : Act} (ha : Loc n ds ρ a) {j t : Nat} {b : Bool} (hj : (ops[j]?).bind (·.dst) = some t) (hv : ρ t = .bool b) : yielded ops a.tmps j = some b := by
 have h1 := ha.get t
 rw [hv, Array.getD_eq_getD_getElem?] at h1
 unfold yielded
 rw [hj]
 show (match a.tmps[t]? with | some (.bool b) => some b | _ => none) = some b
 cases hx : a.tmps[t]? with
 | none => rw [hx] at h1; simp [undef] at h1
 | some x => rw [hx] at h1; simp at h1; subst h1; rfl
theorem Loc.yieldU {n : Nat} {ds : List Deferred} {ρ : Nat → Value} {a : Act} (ha : Loc n ds ρ a) {j t : Nat} (hj : (ops[j]?).bind (·.dst) = some t) (hv : ρ t = undef) : yielded ops a.tmps j = none := by
 have h1 := ha.get t
 rw [hv, Array.getD_eq_getD_getElem?] at h1
 unfold yielded
 rw [hj]
 show (match a.tmps[t]? with | some (.bool b) => some b | _ => none) = none
 cases hx : a.tmps[t]? with
 | none => rfl
 | some x => rw [hx] at h1; simp at h1; subst h1; rfl
theorem WL.gT {d : Option Nat} {op : Op} {j t : Nat} {b : Bool} (hj : (ops[j]?).bind (·.dst) = some t) (hv : ρ t = .bool b)
  (next : WL Γ ops ({ dst := d, op := op, type := ty, pos := ps, after := af, guard := none } :: rest) ρ I L Q) :
  WL Γ ops ({ dst := d, op := op, type := ty, pos := ps, after := af, guard := some (j, b) } :: rest) ρ I L Q := by
 intro a w ha hw
 have hy := ha.yield hj hv
 have h := next a w ha hw
 simp only [wpList, Region.wanted, if_true, hy, beq_self_eq_true] at h ⊢
 exact h
theorem WL.gF {d : Nat} {op : Op} {j t : Nat} {b c : Bool} (hj : (ops[j]?).bind (·.dst) = some t) (hv : ρ t = .bool c) (hbc : (c == b) = false) (hd : Nat.blt d Γ.n = true)
  (next : WL Γ ops rest (upd ρ d undef) I L Q) :
  WL Γ ops ({ dst := some d, op := op, type := ty, pos := ps, after := af, guard := some (j, b) } :: rest) ρ I L Q := by
 intro a w ha hw
 have hy := ha.yield hj hv
 have hne : (some c == some b) = false := by simpa using hbc
 simp only [wpList, Region.wanted, hy, hne, Bool.false_eq_true, if_false]
 exact next _ w (ha.put hd undef) hw
theorem WL.gU {d : Nat} {op : Op} {j t : Nat} {b : Bool} (hj : (ops[j]?).bind (·.dst) = some t) (hv : ρ t = undef) (hd : Nat.blt d Γ.n = true)
  (next : WL Γ ops rest (upd ρ d undef) I L Q) :
  WL Γ ops ({ dst := some d, op := op, type := ty, pos := ps, after := af, guard := some (j, b) } :: rest) ρ I L Q := by
 intro a w ha hw
 have hy := ha.yieldU hj hv
 have hne : ((none : Option Bool) == some b) = false := rfl
 simp only [wpList, Region.wanted, hy, hne, Bool.false_eq_true, if_false]
 exact next _ w (ha.put hd undef) hw
theorem Val.move {x : Operand} : Val Γ ρ I L (.move x) ty (ev ρ x) := fun w _ => rfl
theorem Val.assign {x : Operand} : Val Γ ρ I L (.assign x) ty ((ev ρ x)) :=
 fun w _ => rfl
theorem Val.moveI {x : Operand} {k : IntKind} {m : Int} (h : ev ρ x = .int k m) : Val Γ ρ I L (.move x) ty (.int k m) := fun w _ => by rw [← h]; rfl
theorem Val.moveP {x : Operand} {p : Option Addr} (h : ev ρ x = .pointer p) : Val Γ ρ I L (.move x) ty (.pointer p) := fun w _ => by rw [← h]; rfl
theorem Val.moveB {x : Operand} {b : Bool} (h : ev ρ x = .bool b) : Val Γ ρ I L (.move x) ty (.bool b) := fun w _ => by rw [← h]; rfl
theorem Val.moveS {x : Operand} {p : Option Addr} {m n : Nat} (h : ev ρ x = .slice p m n) : Val Γ ρ I L (.move x) ty (.slice p m n) := fun w _ => by rw [← h]; rfl
theorem Val.moveF {x : Operand} {f : Go.Fn} {p q : Array Value} (h : ev ρ x = .func f p q) : Val Γ ρ I L (.move x) ty (.func f p q) := fun w _ => by rw [← h]; rfl
theorem Val.moveT {x : Operand} {cs : Array Value} (h : ev ρ x = .tuple cs) : Val Γ ρ I L (.move x) ty (.tuple cs) := fun w _ => by rw [← h]; rfl
theorem Val.assignI {x : Operand} {k : IntKind} {m : Int} (h : ev ρ x = .int k m) : Val Γ ρ I L (.assign x) ty (.int k m) := fun w _ => by rw [← h]; rfl
theorem Val.assignP {x : Operand} {p : Option Addr} (h : ev ρ x = .pointer p) : Val Γ ρ I L (.assign x) ty (.pointer p) := fun w _ => by rw [← h]; rfl
theorem Val.assignB {x : Operand} {b : Bool} (h : ev ρ x = .bool b) : Val Γ ρ I L (.assign x) ty (.bool b) := fun w _ => by rw [← h]; rfl
theorem Val.assignS {x : Operand} {p : Option Addr} {m n : Nat} (h : ev ρ x = .slice p m n) : Val Γ ρ I L (.assign x) ty (.slice p m n) := fun w _ => by rw [← h]; rfl
theorem Val.assignF {x : Operand} {f : Go.Fn} {p q : Array Value} (h : ev ρ x = .func f p q) : Val Γ ρ I L (.assign x) ty (.func f p q) := fun w _ => by rw [← h]; rfl
theorem Val.pick {c x y : Operand} {b : Bool} (hc : ev ρ c = .bool b) : Val Γ ρ I L (.pick c x y) ty ((bif b then ev ρ x else ev ρ y)) :=
 fun w _ => by simp only [execOp, hc]; cases b <;> rfl
theorem Val.not {t : Nat} {x : Operand} {b : Bool} (hx : ev ρ x = .bool b) : Val Γ ρ I L (.unOp .not t x) ty ((.bool (!b))) :=
 fun w _ => by simp only [execOp, hx]; rfl
theorem Val.extract {x : Operand} {vs : List Value} {i : Nat} {v : Value} (hx : ev ρ x = .tuple vs.toArray) (hv : vs[i]? = some v) : Val Γ ρ I L (.extract x i) ty (v) :=
 fun w _ => by
  have h1 : (vs.toArray)[i]? = some v := by simpa using hv
  simp only [execOp, hx, Instr.extract, h1]; rfl
theorem Val.extractI {x : Operand} {vs : List Value} {i : Nat} {k : IntKind} {m : Int} (hx : ev ρ x = .tuple vs.toArray) (hv : vs[i]? = some (.int k m)) : Val Γ ρ I L (.extract x i) ty (.int k m) := Val.extract hx hv
theorem Val.extractB {x : Operand} {vs : List Value} {i : Nat} {b : Bool} (hx : ev ρ x = .tuple vs.toArray) (hv : vs[i]? = some (.bool b)) : Val Γ ρ I L (.extract x i) ty (.bool b) := Val.extract hx hv
theorem Val.extractS {x : Operand} {vs : List Value} {i : Nat} {p : Option Addr} {m n : Nat} (hx : ev ρ x = .tuple vs.toArray) (hv : vs[i]? = some (.slice p m n)) : Val Γ ρ I L (.extract x i) ty (.slice p m n) := Val.extract hx hv
theorem Val.extractA {x : Operand} {vs : List Value} {i : Nat} {cs : Array Value} (hx : ev ρ x = .tuple vs.toArray) (hv : vs[i]? = some (.agg cs)) : Val Γ ρ I L (.extract x i) ty (.agg cs) := Val.extract hx hv
theorem Val.nilCheckP {x : Operand} {a : Addr} (hx : ev ρ x = .pointer (some a)) : Val Γ ρ I L (.nilCheck x) ty ((.pointer (some a))) :=
 fun w _ => by simp only [execOp, hx]; rfl
theorem Val.makeFunc {fn : Fn} {p q : Array Operand} : Val Γ ρ I L (.makeFunc fn p q) ty ((.func fn (p.map (ev ρ)) (q.map (ev ρ)))) :=
 fun w _ => rfl
/-! memory -/
theorem Val.loadS {t b off : Nat} {x : Operand} {v : Value} [hk : TyK Γ.P t false 1] (hx : ev ρ x = .pointer (some ⟨b, off, none⟩)) (hr : Rd I L b off [v]) : Val Γ ρ I L (.load t x) ty (v) :=
 fun w hw => by
  have h := hr Γ.E w hw 0 v rfl
  simp only [execOp, hx, Instr.loadAt, Instr.sureAddr, pure_bind, loadVar, Sem.run_bind, TyK.agg hk.is, Result.andThen_ok, Bool.false_eq_true, if_false]
  simp only [load, Sem.run, Nat.add_zero] at h ⊢
  simp only [h]; rfl
theorem Val.loadA {t b off n : Nat} {x : Operand} {cs : List Value} [hk : TyK Γ.P t true n] (hx : ev ρ x = .pointer (some ⟨b, off, none⟩)) (hr : Rd I L b off cs) (hn : cs.length = n) : Val Γ ρ I L (.load t x) ty ((.agg cs.toArray)) :=
 fun w hw => by
  have h := run_loadCells_list (P := Γ.P) w ⟨b, off, none⟩ cs (fun j v hj => by rw [addr_add]; exact hr Γ.E w hw j v hj)
  rw [hn] at h
  simp only [execOp, hx, Instr.loadAt, Instr.sureAddr, pure_bind, loadVar, Sem.run_bind, TyK.agg hk.is, TyK.size hk.is, Result.andThen_ok, if_true, h]
  rfl
theorem Val.loadO {t b off n bt : Nat} {x : Operand} {cs : List Value} (k : Nat) [hk : TyK Γ.P t true n] (hx : ev ρ x = .pointer (some ⟨b, off, none⟩)) (hL : L[k]? = some (box b bt cs)) (hc : Nat.ble (off + n) cs.length = true) :
  Val Γ ρ I L (.load t x) ty (.agg ((cs.drop off).take n).toArray) :=
 Val.loadA hx (Rd.ownN n k hL rfl) (by have := Nat.le_of_ble_eq_true hc; simp; omega)
theorem Val.loadI {t b off n : Nat} {x : Operand} {cs : List Value} [hk : TyK Γ.P t true n] (hx : ev ρ x = .pointer (some ⟨b, off, none⟩)) (h : At I b off cs) (hc : Nat.beq cs.length n = true) :
  Val Γ ρ I L (.load t x) ty (.agg cs.toArray) :=
 Val.loadA hx (Rd.imm h) (Nat.eq_of_beq_eq_true hc)
theorem run_newVar (P : Program) (t : TypeId) (v : Value) (w : World) : (newVar t v).run P w = .ok ⟨w.heap.size, 0, none⟩ { w with heap := w.heap.push (.cells v.cells t (0, 0)) } := rfl
theorem WL.alloc {d t : Nat} {zs : List Value} [hz : ZeroK Γ.P t zs] (hd : Nat.blt d Γ.n = true)
  (next : ∀ g, WL Γ ops rest (upd ρ d (.pointer (some ⟨g, 0, none⟩))) I (L ++ [box g t zs]) Q) : WL Γ ops ({ dst := some d, op := .alloc t, type := ty, pos := ps, after := af, guard := none } :: rest) ρ I L Q :=
 WL.effX (fun w hw => by
  obtain ⟨z, h1, h2⟩ := ZeroK.run hz.is w
  refine ⟨.pointer (some ⟨w.heap.size, 0, none⟩), _, I, _, ?_, hw.alloc (.cells zs.toArray t (0, 0)), next _⟩
  simp only [execOp, Instr.alloc, Sem.run_bind, h1, Result.andThen_ok, run_newVar, h2]
  rfl) hd
theorem WL.box {d t : Nat} {x : Operand} {cs : List Value} (hx : (ev ρ x).cells = cs.toArray) (hd : Nat.blt d Γ.n = true)
  (next : ∀ g, WL Γ ops rest (upd ρ d (.pointer (some ⟨g, 0, none⟩))) I (L ++ [Sl.box g t cs]) Q) : WL Γ ops ({ dst := some d, op := .box t x, type := ty, pos := ps, after := af, guard := none } :: rest) ρ I L Q :=
 WL.effX (fun w hw => by
  refine ⟨.pointer (some ⟨w.heap.size, 0, none⟩), _, I, _, ?_, hw.alloc (.cells cs.toArray t (0, 0)), next _⟩
  simp only [execOp, Instr.box, Sem.run_bind, Result.andThen_ok, run_newVar, hx]
  rfl) hd
def splice (cs : List Value) (off : Nat) (vs : List Value) : List Value := cs.take off ++ vs ++ cs.drop (off + vs.length)
theorem splice_length {cs vs : List Value} {off : Nat} (h : off + vs.length ≤ cs.length) : (splice cs off vs).length = cs.length := by
 simp [splice]; omega
theorem run_storeVar {P : Program} {t b off n : Nat} {g : Bool} {v : Value} {vs cs : List Value} {bt : Nat} (hk : tyk P t = some (g, n)) (hv : v.cells = vs.toArray) (hn : vs.length = n) (h1 : vs.all Value.oneCell' = true)
  (hb : Nat.ble (off + vs.length) cs.length = true) (w : World) (hg : w.heap[b]? = some (.cells cs.toArray bt (0, 0))) :
  (storeVar t ⟨b, off, none⟩ v).run P w = .ok () (w.setRow b (splice cs off vs).toArray) := by
 have h := run_storeCells_at (P := P) b off bt vs 0 cs.toArray w hg (by have := Nat.le_of_ble_eq_true hb; simpa using this) (fun v hv => (List.all_eq_true.1 h1) v hv)
 unfold storeVar
 simp only [Sem.run_bind, TyK.size hk, Result.andThen_ok, hv, List.size_toArray, hn, ne_eq, not_true_eq_false, if_false, pure_bind]
 simpa [splice, Nat.add_zero] using h
theorem setRow_sat {E : Ev} {w : World} {I : Mem} {L : List HP} {k b t : Nat} {cs : List Value} (hw : Sat E w I L) (hk : L[k]? = some (box b t cs)) (cs' : List Value) : Sat E (w.setRow b cs'.toArray) I (L.set k (box b t cs')) := by
 have hl := hw.lookK hk
 refine hw.writeK hk (.cells cs'.toArray t (0, 0)) _ ?_ ?_
 ·simp only [Array.getElem?_modify, hl]; simp
 ·intro j hj; simp only [Array.getElem?_modify]; rw [if_neg (by omega)]
def storeOk (vs : List Value) (n off len : Nat) : Bool := Nat.beq vs.length n && vs.all Value.oneCell' && Nat.ble (off + vs.length) len
theorem WL.store {t b off n : Nat} {g : Bool} {x y : Operand} {cs : List Value} {bt : Nat} (k : Nat) [hk : TyK Γ.P t g n] (hx : ev ρ x = .pointer (some ⟨b, off, none⟩)) (hL : L[k]? = some (Sl.box b bt cs))
  (hc : storeOk (ev ρ y).cells.toList n off cs.length = true)
  (next : WL Γ ops rest ρ I (L.set k (Sl.box b bt (splice cs off (ev ρ y).cells.toList))) Q) : WL Γ ops ({ dst := none, op := .store t x y, type := ty, pos := ps, after := af, guard := none } :: rest) ρ I L Q :=
 WL.effN (fun w hw => by
  simp only [storeOk, Bool.and_eq_true] at hc
  have hn := Nat.eq_of_beq_eq_true hc.1.1
  exact ⟨_, by
   simp only [execOp, hx, Instr.storeAt, Instr.sureAddr, pure_bind, Sem.run_bind, run_storeVar (v := ev ρ y) (vs := (ev ρ y).cells.toList) hk.is (by simp) hn hc.1.2 hc.2 w (hw.lookK hL), Result.andThen_ok]; rfl, setRow_sat hw hL _⟩) next
theorem Val.fieldAddr {s f b off o n : Nat} {g : Bool} {x : Operand} [hk : FldK Γ.P s f o g n] (hx : ev ρ x = .pointer (some ⟨b, off, none⟩)) :
  Val Γ ρ I L (.fieldAddr s x f) ty (.pointer (some ⟨b, off + o, none⟩)) :=
 fun w hw => by
  obtain ⟨fs, fx, h1, h2, h3, h4, h5⟩ := FldK.und hk.is
  simp only [execOp, hx, Instr.fieldAt, Sem.run_bind, run_underlying h1, Result.andThen_ok, h2, Instr.sureAddr, pure_bind, fieldPlace, TyK.size h4, h5, if_false, addr_add, h3]
  rfl
theorem run_partS {P : Program} {t n : Nat} (hk : tyk P t = some (false, n)) {cs : Array Value} {off : Nat} {v : Value} (hv : cs[off]? = some v) (w : World) : (part t cs off).run P w = .ok v w := by
 simp only [part, Sem.run_bind, TyK.agg hk, Result.andThen_ok, Bool.false_eq_true, if_false, hv]; rfl
theorem run_partA {P : Program} {t n : Nat} (hk : tyk P t = some (true, n)) {cs : Array Value} {off : Nat} (w : World) : (part t cs off).run P w = .ok (.agg (cs.extract off (off + n))) w := by
 simp only [part, Sem.run_bind, TyK.agg hk, TyK.size hk, Result.andThen_ok, if_true]; rfl
theorem Val.fieldS {s f o n : Nat} {x : Operand} {cs : List Value} {v : Value} [hk : FldK Γ.P s f o false n] (hx : ev ρ x = .agg cs.toArray) (hv : cs[o]? = some v) : Val Γ ρ I L (.field s x f) ty (v) :=
 fun w hw => by
  obtain ⟨fs, fx, h1, h2, h3, h4, h5⟩ := FldK.und hk.is
  subst h3
  simp only [execOp, hx, Instr.field, Sem.run_bind, run_underlying h1, Result.andThen_ok, h2, asAgg, pure_bind, run_partS h4 (show cs.toArray[fx.offset]? = some v by simpa using hv)]
  rfl
theorem Val.fieldA {s f o n : Nat} {x : Operand} {cs vs : List Value} [hk : FldK Γ.P s f o true n] (hx : ev ρ x = .agg cs.toArray) (hv : (cs.drop o).take n = vs) : Val Γ ρ I L (.field s x f) ty ((.agg vs.toArray)) :=
 fun w hw => by
  obtain ⟨fs, fx, h1, h2, h3, h4, h5⟩ := FldK.und hk.is
  subst h3
  have he : cs.toArray.extract fx.offset (fx.offset + n) = vs.toArray := by
   rw [← hv]; apply Array.ext'; simp
  simp only [execOp, hx, Instr.field, Sem.run_bind, run_underlying h1, Result.andThen_ok, h2, asAgg, pure_bind, run_partA h4, he]
  rfl
theorem Val.indexAddr {t e n b off len cap : Nat} {x i : Operand} {k : IntKind} {j : Int} [hk : SlK Γ.P t e n] (hx : ev ρ x = .slice (some ⟨b, off, none⟩) len cap) (hi : ev ρ i = .int k j) (h0 : 0 ≤ j) (h1 : j < len) : Val Γ ρ I L (.indexAddr t x i) ty ((.pointer (some ⟨b, off + j.toNat * n, none⟩))) :=
 fun w hw => by
  obtain ⟨hu, ie, hie, hn⟩ := SlK.und hk.is
  have hs : (sizeOf e).run Γ.P w = .ok n w := by rw [run_sizeOf w hie]; simp [Program.cellsOf, hie, hn]
  simp only [execOp, hx, hi, Instr.indexAt, asIntOf, pure_bind, Sem.run_bind, run_underlying hu, Result.andThen_ok]
  simp only [Sem.run_bind, pure_bind, run_underlying hu, Result.andThen_ok, h0, h1, and_self, if_true, hs, addr_add]
  simp
theorem Val.indexAddrA {t l n b off : Nat} {g : Bool} {x i : Operand} {k : IntKind} {j : Int} [hk : ArK Γ.P t l g n] (hx : ev ρ x = .pointer (some ⟨b, off, none⟩)) (hi : ev ρ i = .int k j) (h0 : 0 ≤ j) (h1 : j < l) : Val Γ ρ I L (.indexAddr t x i) ty ((.pointer (some ⟨b, off + j.toNat * n, none⟩))) :=
 fun w hw => by
  obtain ⟨e, hu, he⟩ := ArK.und hk.is
  simp only [execOp, hx, hi, Instr.indexAt, asIntOf, pure_bind, Sem.run_bind, run_underlying hu, Result.andThen_ok, Instr.sureAddr]
  simp only [Sem.run_bind, pure_bind, run_underlying hu, Result.andThen_ok, h0, h1, and_self, if_true, TyK.size he, addr_add]
  simp
end
end Go.Sl

namespace Go.Sl
open Go.RowKit
/-! ### Integers -/
class IntK (P : Program) (t : Nat) (k : outParam IntKind) : Prop where
 is : P.underlying t = some (.int k)
theorem p64 : (2 : Int) ^ 64 = 18446744073709551616 := by rfl
theorem p63 : (2 : Int) ^ (64 - 1) = 9223372036854775808 := by rfl
theorem wrap_i64_eq (n : Int) : IntKind.i64.wrap n = (n + 9223372036854775808) % 18446744073709551616 - 9223372036854775808 := by
 simp only [IntKind.wrap, IntKind.signed, IntKind.bits, Bool.true_and, decide_eq_true_eq, p64, p63]
 split <;> omega
theorem wrap_i64 {n : Int} (h1 : -9223372036854775808 ≤ n) (h2 : n ≤ 9223372036854775807) : IntKind.i64.wrap n = n := by rw [wrap_i64_eq]; omega
section
variable {Γ : Cx} {ops : Array Oper} {rest : List Oper} {ρ : Nat → Value} {I : Mem} {L : List HP} {Q : Post} {ty : TypeId} {ps : String} {af : Array Edge}
section
variable {d t t' : Nat} {x y : Operand} {k : IntKind} {m n z : Int}
theorem Val.add (hx : ev ρ x = .int k m) (hy : ev ρ y = .int k n) (hz : k.wrap (m + n) = z) : Val Γ ρ I L (.binOp .add t x y t') ty ((.int k z)) :=
 fun w _ => by subst hz; simp only [execOp, hx, hy]; simp [eqGuard, binOp, Op.intArith]; all_goals rfl
theorem Val.sub (hx : ev ρ x = .int k m) (hy : ev ρ y = .int k n) (hz : k.wrap (m - n) = z) : Val Γ ρ I L (.binOp .sub t x y t') ty ((.int k z)) :=
 fun w _ => by subst hz; simp only [execOp, hx, hy]; simp [eqGuard, binOp, Op.intArith]; all_goals rfl
theorem Val.rem (hx : ev ρ x = .int k m) (hy : ev ρ y = .int k n) (h0 : n ≠ 0) (hz : m.tmod n = z) : Val Γ ρ I L (.binOp .rem t x y t') ty ((.int k z)) :=
 fun w _ => by subst hz; simp only [execOp, hx, hy]; simp [eqGuard, binOp, Op.intDiv, h0]; all_goals rfl
theorem Val.shr {k' : IntKind} (hx : ev ρ x = .int k m) (hy : ev ρ y = .int k' n) (h0 : 0 ≤ n) (hz : m.fdiv (2 ^ (min n.toNat k.bits)) = z) : Val Γ ρ I L (.binOp .shr t x y t') ty ((.int k z)) :=
 fun w _ => by
  have h0' : ¬ n < 0 := by omega
  subst hz; simp only [execOp, hx, hy]; simp [eqGuard, binOp, Op.shift, h0']; all_goals rfl
theorem Val.eql {b : Bool} (hx : ev ρ x = .int k m) (hy : ev ρ y = .int k n) (hb : (m == n) = b) : Val Γ ρ I L (.binOp .eql t x y t') ty ((.bool b)) :=
 fun w _ => by subst hb; simp only [execOp, hx, hy]; simp [eqGuard, binOp, Op.intCmp]; all_goals rfl
theorem Val.neq {b : Bool} (hx : ev ρ x = .int k m) (hy : ev ρ y = .int k n) (hb : (m != n) = b) : Val Γ ρ I L (.binOp .neq t x y t') ty ((.bool b)) :=
 fun w _ => by subst hb; simp only [execOp, hx, hy]; simp [eqGuard, binOp, Op.intCmp]; all_goals rfl
theorem Val.lss {b : Bool} (hx : ev ρ x = .int k m) (hy : ev ρ y = .int k n) (hb : decide (m < n) = b) : Val Γ ρ I L (.binOp .lss t x y t') ty ((.bool b)) :=
 fun w _ => by subst hb; simp only [execOp, hx, hy]; simp [eqGuard, binOp, Op.intCmp]; all_goals rfl
theorem Val.leq {b : Bool} (hx : ev ρ x = .int k m) (hy : ev ρ y = .int k n) (hb : decide (m ≤ n) = b) : Val Γ ρ I L (.binOp .leq t x y t') ty ((.bool b)) :=
 fun w _ => by subst hb; simp only [execOp, hx, hy]; simp [eqGuard, binOp, Op.intCmp]; all_goals rfl
theorem Val.gtr {b : Bool} (hx : ev ρ x = .int k m) (hy : ev ρ y = .int k n) (hb : decide (n < m) = b) : Val Γ ρ I L (.binOp .gtr t x y t') ty ((.bool b)) :=
 fun w _ => by subst hb; simp only [execOp, hx, hy]; simp [eqGuard, binOp, Op.intCmp]; all_goals rfl
theorem Val.geq {b : Bool} (hx : ev ρ x = .int k m) (hy : ev ρ y = .int k n) (hb : decide (n ≤ m) = b) : Val Γ ρ I L (.binOp .geq t x y t') ty ((.bool b)) :=
 fun w _ => by subst hb; simp only [execOp, hx, hy]; simp [eqGuard, binOp, Op.intCmp]; all_goals rfl
end
class BoolK (P : Program) (t : Nat) : Prop where
 is : P.underlying t = some .bool
theorem run_equalInB {P : Program} {t : Nat} (h : P.underlying t = some .bool) (dp : Nat) (a b : Bool) (w : World) : (Op.equalIn (dp + 1) t (.bool a) (.bool b)).run P w = .ok (a == b) w := by
 unfold Op.equalIn
 simp only [Sem.run_bind, run_underlying h, Result.andThen_ok]; rfl
theorem run_eqlB {P : Program} {t : Nat} (h : P.underlying t = some .bool) (a b : Bool) (w : World) : (Op.equal t (.bool a) (.bool b)).run P w = .ok (a == b) w := run_equalInB h 9999 a b w
theorem Val.eqlB {t t' : Nat} {x y : Operand} {a b : Bool} [hk : BoolK Γ.P t] (hx : ev ρ x = .bool a) (hy : ev ρ y = .bool b) : Val Γ ρ I L (.binOp .eql t x y t') ty ((.bool (a == b))) :=
 fun w _ => by simp only [execOp, hx, hy]; simp [eqGuard, binOp, run_eqlB hk.is]; all_goals rfl
def fillL (pl : Nat → Option (Nat × Nat)) : List Value → List (Nat × List Value) → Option (List Value)
 | cs, [] => some cs
 | cs, (i, vs) :: r =>
  match pl i with
  | none => none
  | some (off, size) => bif Nat.beq vs.length size && Nat.ble (off + vs.length) cs.length then fillL pl (splice cs off vs) r else none
theorem drop_add {α : Type} (A B : List α) (n : Nat) : (A ++ B).drop (A.length + n) = B.drop n := by rw [← List.drop_drop, List.drop_left]
theorem splice_mid (A B : List Value) (x : Value) (xs : List Value) : splice (A ++ x :: B) A.length xs = A ++ xs ++ (x :: B).drop xs.length := by
 unfold splice
 rw [List.take_left, drop_add]
theorem splice_mid' (A B : List Value) (xs : List Value) : splice (A ++ B) A.length xs = A ++ xs ++ B.drop xs.length := by
 unfold splice
 rw [List.take_left, drop_add]
theorem splice_step (cs : List Value) (o : Nat) (v : Value) (vs : List Value) (h : o < cs.length) : splice (cs.set o v) (o + 1) vs = splice cs o (v :: vs) := by
 obtain ⟨A, x, B, rfl, rfl⟩ : ∃ A x B, cs = A ++ x :: B ∧ o = A.length :=
  ⟨cs.take o, cs[o], cs.drop (o + 1), by simp, by simp; omega⟩
 rw [splice_mid, List.set_append_right _ _ (Nat.le_refl _)]
 simp only [Nat.sub_self, List.set_cons_zero, List.length_cons, List.drop_succ_cons]
 have := splice_mid' (A ++ [v]) B vs
 simp only [List.append_assoc, List.cons_append, List.nil_append, List.length_append, List.length_cons, List.length_nil, Nat.zero_add] at this ⊢
 exact this
theorem fold_splice (vs : List Value) : ∀ (cs : List Value) (off : Nat), off + vs.length ≤ cs.length →
  (vs.toArray.zipIdx.foldl (fun (a : Array Value) (p : Value × Nat) => a.setIfInBounds (off + p.2) p.1) cs.toArray) = (splice cs off vs).toArray := by
 have key : ∀ (vs : List Value) (k : Nat) (cs : List Value) (off : Nat), off + k + vs.length ≤ cs.length →
   ((vs.zipIdx k).foldl (fun (a : Array Value) (p : Value × Nat) => a.setIfInBounds (off + p.2) p.1) cs.toArray) = (splice cs (off + k) vs).toArray := by
  intro vs
  induction vs with
  | nil => intro k cs off h; simp [splice]
  | cons v vs ih =>
   intro k cs off h
   simp only [List.zipIdx_cons, List.foldl_cons, List.setIfInBounds_toArray, List.length_cons] at h ⊢
   rw [ih (k + 1) _ off (by simp; omega)]
   rw [show off + (k + 1) = off + k + 1 from by omega, splice_step cs (off + k) v vs (by omega)]
 intro cs off h
 have := key vs 0 cs off (by simpa using h)
 rw [← Array.foldl_toList]
 simpa using this
theorem fill_of_fillL (pl : Nat → Option (Nat × Nat)) : ∀ (parts : List (Nat × Value)) (cs r : List Value),
  fillL pl cs (parts.map fun p => (p.1, p.2.cells.toList)) = some r → Instr.fill pl cs.toArray parts = some r.toArray
 | [], cs, r, h => by simp [fillL] at h; subst h; rfl
 | (i, v) :: parts, cs, r, h => by
  simp only [List.map_cons, fillL] at h
  cases hp : pl i with
  | none => rw [hp] at h; cases h
  | some os =>
   obtain ⟨off, size⟩ := os
   rw [hp] at h
   simp only at h
   cases hc : (Nat.beq v.cells.toList.length size && Nat.ble (off + v.cells.toList.length) cs.length) with
   | false => rw [hc] at h; cases h
   | true =>
    rw [hc] at h
    simp only [cond_true] at h
    simp only [Bool.and_eq_true] at hc
    have h1 : v.cells.size = size := by have := Nat.eq_of_beq_eq_true hc.1; simpa using this
    have h2 : off + v.cells.size ≤ cs.length := by have := Nat.le_of_ble_eq_true hc.2; simpa using this
    have ih := fill_of_fillL pl parts _ r h
    rw [← fold_splice v.cells.toList cs off (by simpa using h2)] at ih
    simp only [Instr.fill, hp, h1]
    have h3 : ¬ (cs.length < off + v.cells.size) := by omega
    rw [h1] at h3
    simp [h3]
    simpa using ih
def placesL (P : Program) (t : Nat) : Option (List (Nat × Nat)) :=
 match P.underlying t with
 | some (.struct fs) => fs.toList.mapM (fun f => (P.info? f.type).map fun i => (f.offset, i.size))
 | some (.array n e) => (P.info? e).map fun i => (List.range n).map fun j => (j * i.size, i.size)
 | _ => none
class PlK (P : Program) (t : Nat) (pl : outParam (List (Nat × Nat))) : Prop where
 is : placesL P t = some pl
def pcs (ρ : Nat → Value) (qs : List (Nat × Operand)) : List (Nat × List Value) := qs.map fun p => (p.1, (ev ρ p.2).cells.toList)
theorem fill_lookup {f g : Nat → Option (Nat × Nat)} (hfg : ∀ i x, f i = some x → g i = some x) : ∀ (qs : List (Nat × List Value)) (cs r : List Value), fillL f cs qs = some r → fillL g cs qs = some r
 | [], cs, r, h => h
 | (i, vs) :: qs, cs, r, h => by
  simp only [fillL] at h ⊢
  cases hf : f i with
  | none => rw [hf] at h; cases h
  | some x =>
   rw [hf] at h; rw [hfg i x hf]
   obtain ⟨off, size⟩ := x
   simp only at h ⊢
   cases hc : (Nat.beq vs.length size && Nat.ble (off + vs.length) cs.length) with
   | false => rw [hc] at h; cases h
   | true => rw [hc] at h; simp only [cond_true] at h ⊢; exact fill_lookup hfg qs _ r h
theorem run_buildL {P : Program} {t : Nat} {zs cs : List Value} {pl : List (Nat × Nat)} (hz : zeroK P t = some zs) (hp : placesL P t = some pl) (parts : List (Nat × Value))
  (h : fillL (pl[·]?) zs (parts.map fun p => (p.1, p.2.cells.toList)) = some cs) (w : World) : (Instr.build t parts.toArray).run P w = .ok (.agg cs.toArray) w := by
 refine run_build w t _ cs.toArray ?_
 unfold zeroK at hz
 unfold Program.built
 cases hi : P.info? t with
 | none => rw [hi] at hz; cases hz
 | some i =>
  rw [hi] at hz
  cases hzz : i.zero with
  | none => simp [hzz] at hz
  | some z =>
   simp [hzz] at hz
   have hzc : z.cells = zs.toArray := by rw [← hz]
   unfold placesL at hp
   split at hp
   ·rename_i fs hfs
    rw [hfs]
    simp only [hzz, hp, hzc]
    refine fill_of_fillL _ _ _ _ (fill_lookup (fun i x hx => ?_) _ _ _ h)
    simpa using hx
   ·rename_i n e he
    rw [he]
    simp only [hzz]
    cases hie : P.info? e with
    | none => rw [hie] at hp; cases hp
    | some ie =>
     rw [hie] at hp
     simp at hp
     simp only [hzc]
     refine fill_of_fillL _ _ _ _ (fill_lookup (fun i x hx => ?_) _ _ _ h)
     rw [← hp] at hx
     simp only [List.getElem?_map, List.getElem?_range] at hx
     by_cases hin : i < n
     ·simp [hin] at hx; exact congrArg some hx
     ·simp [hin] at hx
   ·cases hp
theorem Val.build {t : Nat} {qs : List (Nat × Operand)} {zs cs : List Value} {pl : List (Nat × Nat)} [hz : ZeroK Γ.P t zs] [hp : PlK Γ.P t pl] (h : fillL (pl[·]?) zs (pcs ρ qs) = some cs) : Val Γ ρ I L (.build t qs.toArray) ty ((.agg cs.toArray)) :=
 fun w _ => by
  have h1 := run_buildL (P := Γ.P) hz.is hp.is (qs.map fun p => (p.1, ev ρ p.2)) (by simpa [pcs, Function.comp_def] using h) w
  simp only [execOp, List.map_toArray, Sem.run_bind, h1, Result.andThen_ok]
  rfl
/-! ### Slices -/
theorem Val.len {t e n len cap : Nat} {a : Option Addr} {x : Operand} [hk : SlK Γ.P t e n] (hx : ev ρ x = .slice a len cap) : Val Γ ρ I L (.call { callee := .builtin .len, args := #[x], argTypes := #[t] }) ty ((.int .i64 len)) :=
 fun w _ => by
  obtain ⟨hu, _⟩ := SlK.und hk.is
  simp only [execOp, resolve, List.map_toArray, List.map_cons, List.map_nil, hx, pure_bind, invoke, builtin, Builtin.len_]
  simp [Sem.run_bind, run_underlying hu, goInt]
inductive BndIs (ρ : Nat → Value) : Option Operand → Nat → Nat → Prop
 | none (d : Nat) : BndIs ρ none d d
 | some {x : Operand} {d : Nat} {k : IntKind} {e : Int} (h : ev ρ x = .int k e) (h0 : 0 ≤ e) : BndIs ρ (some x) d e.toNat
theorem run_sliceBound {P : Program} {k : IntKind} {e : Int} (h0 : 0 ≤ e) {y : Nat} (hy : e.toNat ≤ y) (c : BoundsCode) (w : World) : (Instr.sliceBound (.int k e) y c).run P w = .ok e.toNat w := by
 have : e ≤ y := by omega
 simp only [Instr.sliceBound, asIntOf, pure_bind, h0, this, and_self, if_true]; rfl
theorem Val.slice {t e n len cap l h : Nat} {a : Option Addr} {x : Operand} {lo hi : Option Operand} [hk : SlK Γ.P t e n] (hx : ev ρ x = .slice a len cap) (hl : BndIs ρ lo 0 l) (hh : BndIs ρ hi len h) (h1 : l ≤ h) (h2 : h ≤ cap) : Val Γ ρ I L (.slice t x lo hi none) ty ((.slice (if cap = l then a else a.map (·.add (l * n))) (h - l) (cap - l))) :=
 fun w _ => by
  obtain ⟨hu, ie, hie, hn⟩ := SlK.und hk.is
  have hs : (sizeOf e).run Γ.P w = .ok n w := by rw [run_sizeOf w hie]; simp [Program.cellsOf, hie, hn]
  have hb : (Instr.sliceBounds true len cap (lo.map (ev ρ)) (hi.map (ev ρ)) none).run Γ.P w = .ok (l, h, cap) w := by
   cases hl with
   | none => cases hh with
    | none => rfl
    | some g g0 => simp only [Instr.sliceBounds, Option.map_some, Option.map_none, g, pure_bind, Sem.run_bind, run_sliceBound g0 h2, Result.andThen_ok]; rfl
   | some f f0 => cases hh with
    | none => simp only [Instr.sliceBounds, Option.map_some, Option.map_none, f, pure_bind, Sem.run_bind, run_sliceBound f0 h1, Result.andThen_ok]; rfl
    | some g g0 => simp only [Instr.sliceBounds, Option.map_some, Option.map_none, f, g, pure_bind, Sem.run_bind, run_sliceBound g0 h2, run_sliceBound f0 h1, Result.andThen_ok]; rfl
  simp only [execOp, Instr.sliceAt, hx, Sem.run_bind, run_underlying hu, Result.andThen_ok, Instr.slice, hb, hs, Option.map_none]
  rfl
theorem Val.sliceA {t len n l h b off : Nat} {g : Bool} {x : Operand} {lo hi : Option Operand} [hk : ArK Γ.P t len g n] (hx : ev ρ x = .pointer (some ⟨b, off, none⟩)) (hl : BndIs ρ lo 0 l) (hh : BndIs ρ hi len h) (h1 : l ≤ h) (h2 : h ≤ len) : Val Γ ρ I L (.slice t x lo hi none) ty ((.slice (some (if len = l then ⟨b, off, none⟩ else ⟨b, off + l * n, none⟩)) (h - l) (len - l))) :=
 fun w _ => by
  obtain ⟨e, hu, he⟩ := ArK.und hk.is
  have hb : (Instr.sliceBounds false len len (lo.map (ev ρ)) (hi.map (ev ρ)) none).run Γ.P w = .ok (l, h, len) w := by
   cases hl with
   | none => cases hh with
    | none => rfl
    | some g g0 => simp only [Instr.sliceBounds, Option.map_some, Option.map_none, g, pure_bind, Sem.run_bind, run_sliceBound g0 h2, Result.andThen_ok]; rfl
   | some f f0 => cases hh with
    | none => simp only [Instr.sliceBounds, Option.map_some, Option.map_none, f, pure_bind, Sem.run_bind, run_sliceBound f0 h1, Result.andThen_ok]; rfl
    | some g g0 => simp only [Instr.sliceBounds, Option.map_some, Option.map_none, f, g, pure_bind, Sem.run_bind, run_sliceBound g0 h2, run_sliceBound f0 h1, Result.andThen_ok]; rfl
  simp only [execOp, Instr.sliceAt, hx, Sem.run_bind, run_underlying hu, Result.andThen_ok, Instr.sureAddr, pure_bind, Option.map_none, hb, TyK.size he, addr_add]
  rfl
end
theorem shr_u64 {s y : Int} (p : Int) (hp : (2 : Int) ^ (min s.toNat IntKind.u64.bits) = p) (h0 : 0 < p) : y.fdiv (2 ^ (min s.toNat IntKind.u64.bits)) = y / p := by
 rw [hp, Int.fdiv_eq_ediv_of_nonneg _ (by omega)]
end Go.Sl

namespace Go.Sl
open Go.RowKit
/-! ### Slices of one's own -/
def sl (e sz : Nat) (v : Value) (n : Nat) (xs : List Value) : HP := fun m =>
 xs.length = n * sz ∧ ((v = .slice none 0 0 ∧ n = 0) ∨
  ∃ g cap cur, v = .slice (some ⟨g, 0, none⟩) n cap ∧ m g = some (.cells cur e (0, 0)) ∧ n ≤ cap ∧ cap ≤ maxLen ∧ cur.size = cap * sz ∧ cur.toList.take (n * sz) = xs)
section
variable {E : Ev} {w w' : World} {I : Mem} {L : List HP}
theorem Sat.sl_own {e sz n : Nat} {v : Value} {xs : List Value} (h : Sat E w I (sl e sz v n xs :: L)) : w.ownsRow 0 e sz v n xs := by
 obtain ⟨m, hm, h1, h2⟩ := h.head
 refine ⟨h1, h2.imp id ?_⟩
 rintro ⟨g, cap, cur, hv, hg, r⟩
 exact ⟨g, cap, cur, hv, Nat.zero_le _, hm _ _ hg, r⟩
theorem Sat.sl_grown {e sz n n' g cap : Nat} {v : Value} {xs xs' : List Value} (h : Sat E w I (sl e sz v n xs :: L)) (ho : w'.ownsRow 0 e sz (.slice (some ⟨g, 0, none⟩) n' cap) n' xs') (hg : w.grownBy w' v.ownBlock)
  (hb : v.ownBlock = some g ∨ g = w.heap.size) : Sat E w' I (sl e sz (.slice (some ⟨g, 0, none⟩) n' cap) n' xs' :: L) := by
 obtain ⟨m, a, d, m1, m2, e1, e2, e3, ⟨hl, e4⟩, e5⟩ := h.own
 obtain ⟨hl', ho⟩ := ho
 rcases ho with ⟨hv, _⟩ | ⟨g', cap', cur', hv, _, hgc, r⟩
 ·cases hv
 injection hv with hv1 hv2 hv3
 injection hv1 with hv1
 injection hv1 with hv1
 subst hv1; subst hv3
 -- where g lies
 have off2 : m2 g = none := by
  cases hx : m2 g with
  | none => rfl
  | some x =>
   exfalso
   have hlt := Mem.lt_of a (e2 _ _ hx)
   rcases hb with hb | rfl
   ·rcases e4 with ⟨rfl, _⟩ | ⟨k, c, cu, rfl, hk, _⟩
    ·cases hb
    ·simp [Value.ownBlock] at hb; subst hb
     rcases e3 k with h | h
     ·rw [h] at hk; cases hk
     ·rw [h] at hx; cases hx
   ·omega
 have offI : I g = none := by
  cases hx : I g with
  | none => rfl
  | some x =>
   exfalso
   have hlt := Mem.lt_of h.imm hx
   rcases hb with hb | rfl
   ·rcases e4 with ⟨rfl, _⟩ | ⟨k, c, cu, rfl, hk, _⟩
    ·cases hb
    ·simp [Value.ownBlock] at hb; subst hb
     rcases d k with h | h
     ·rw [h] at hx; cases hx
     ·rw [e1 _ _ hk] at h; cases h
   ·omega
 have keep : ∀ k x, (I k = some x ∨ m2 k = some x) → w.heap[k]? = some x → w'.heap[k]? = some x := by
  intro k x hk hx
  rw [hg.block k (Array.getElem?_eq_some_iff.1 hx).1 ?_]
  ·exact hx
  ·intro hke
   rcases e4 with ⟨rfl, _⟩ | ⟨j, c, cu, rfl, hj, _⟩
   ·cases hke
   ·simp [Value.ownBlock] at hke; subst hke
    rcases hk with hk | hk
    ·rcases d k with h | h
     ·rw [h] at hk; cases hk
     ·rw [e1 _ _ hj] at h; cases h
    ·rcases e3 k with h | h
     ·rw [h] at hj; cases hj
     ·rw [h] at hk; cases hk
 refine ⟨hg.tape.trans h.tape, hg.os.trans h.os, hg.output.trans h.output, fun k x hk => keep k x (.inl hk) (h.imm k x hk), (Mem.sing g (.cells cur' e (0, 0))).un m2, ?_, ?_, ⟨Mem.sing g (.cells cur' e (0, 0)), m2, Mem.le_un_left _ _, Mem.le_un_right ?_, ?_, ⟨hl', .inr ⟨g, cap, cur', rfl, by simp [Mem.sing], r⟩⟩, e5⟩⟩
 ·intro k x hk
  unfold Mem.un Mem.sing at hk
  by_cases hkg : k = g
  ·subst hkg; simp at hk; subst hk; exact hgc
  ·simp [hkg] at hk; exact keep k x (.inr hk) (a k x (e2 k x hk))
 ·refine Mem.dis_un (fun k => ?_) (d.le (Mem.le.refl _) e2)
  by_cases hkg : k = g
  ·subst hkg; exact .inl offI
  ·exact .inr (by simp [Mem.sing, hkg])
 all_goals
  intro k
  by_cases hkg : k = g
  ·subst hkg; exact .inr off2
  ·exact .inl (by simp [Mem.sing, hkg])
theorem Sat.sl_nil {e sz : Nat} (h : Sat E w I L) : Sat E w I (sl e sz (.slice none 0 0) 0 [] :: L) :=
 h.imp fun m hm => ⟨fun _ => none, m, fun _ _ h => (by cases h), Mem.le.refl _, fun _ => .inl rfl, ⟨by simp, .inl ⟨rfl, rfl⟩⟩, hm⟩
theorem Sat.box_sl {e sz g n : Nat} {xs : List Value} (h : Sat E w I (box g e xs :: L)) (hn : xs.length = n * sz) (hm : n ≤ maxLen) : Sat E w I (sl e sz (.slice (some ⟨g, 0, none⟩) n n) n xs :: L) :=
 h.imp fun m ⟨m1, m2, h1, h2, h3, h4, h5⟩ => ⟨m1, m2, h1, h2, h3, ⟨hn, .inr ⟨g, n, xs.toArray, rfl, h4, Nat.le_refl _, hm, by simp [hn], by simp [← hn]⟩⟩, h5⟩
theorem Sat.sl_freeze {e sz n : Nat} {v : Value} {xs : List Value} (h : Sat E w I (sl e sz v n xs :: L)) :
  ∃ I', I.le I' ∧ Sat E w I' L ∧ ((v = .slice none 0 0 ∧ n = 0 ∧ xs = []) ∨ ∃ g cap, v = .slice (some ⟨g, 0, none⟩) n cap ∧ n ≤ cap ∧ cap ≤ maxLen ∧ At I' g 0 xs) := by
 obtain ⟨m, a, d, m1, m2, e1, e2, e3, ⟨hl, e4⟩, e5⟩ := h.own
 rcases e4 with ⟨rfl, rfl⟩ | ⟨g, cap, cur, rfl, hg, h1, h2, h3, h4⟩
 ·exact ⟨I, Mem.le.refl _, ⟨h.tape, h.os, h.output, h.imm, m2, fun k x hk => a k x (e2 k x hk), d.le (Mem.le.refl _) e2, e5⟩, .inl ⟨rfl, rfl, by simpa using hl⟩⟩
 ·have hb : Sat E w I (pt g (.cells cur e (0, 0)) :: L) := ⟨h.tape, h.os, h.output, h.imm, m, a, d, m1, m2, e1, e2, e3, hg, e5⟩
  refine ⟨_, hb.freeze.2, hb.freeze.1, .inr ⟨g, cap, rfl, h1, h2, cur, e, (0, 0), by simp [Mem.ins], fun j v hj => ?_⟩⟩
  rw [← h4, List.getElem?_take] at hj
  split at hj
  ·simpa using hj
  ·cases hj
end
section
variable {Γ : Cx} {ops : Array Oper} {rest : List Oper} {ρ : Nat → Value} {I : Mem} {L : List HP} {Q : Post} {ty : TypeId} {ps : String} {af : Array Edge}
theorem WL.conv {L' : List HP} (h : ∀ w, Sat Γ.E w I L → Sat Γ.E w I L') (next : WL Γ ops rest ρ I L' Q) : WL Γ ops rest ρ I L Q := fun a w ha hw => next a w ha (h w hw)
theorem WC.conv {c : Code} {L' : List HP} (h : ∀ w, Sat Γ.E w I L → Sat Γ.E w I L') (next : WC Γ c ρ I L' Q) : WC Γ c ρ I L Q := fun a w ha hw => next a w ha (h w hw)
theorem WX.conv {e : Exit} {L' : List HP} (h : ∀ w, Sat Γ.E w I L → Sat Γ.E w I L') (next : WX Γ e ρ I L' Q) : WX Γ e ρ I L Q := fun a w ha hw => next a w ha (h w hw)
class BytK (P : Program) (e : Nat) (n : outParam Nat) : Prop where
 is : (P.info? e).map (·.bytes) = some n
theorem zero_cells {P : Program} {t : Nat} {zs : List Value} (h : zeroK P t = some zs) : ∃ i z, P.info? t = some i ∧ i.zero = some z ∧ z.cells = zs.toArray := by
 unfold zeroK at h
 cases hi : P.info? t with
 | none => rw [hi] at h; cases h
 | some i => cases hz : i.zero with
  | none => rw [hi] at h; simp [hz] at h
  | some z => rw [hi] at h; simp [hz] at h; exact ⟨i, z, rfl, hz, by rw [← h]⟩
theorem WL.append {d t e sz by_ n m c b off : Nat} {s x : Operand} {v : Value} {xs ys zs : List Value} (k : Nat) [hk : SlK Γ.P t e sz] [hz : ZeroK Γ.P e zs] [hb : BytK Γ.P e by_]
  (hs : ev ρ s = v) (hL : L[k]? = some (sl e sz v n xs)) (hx : ev ρ x = .slice (some ⟨b, off, none⟩) m c) (hr : Rd I L b off ys) (hy : ys.length = m * sz) (h1 : ys.all Value.oneCell' = true) (hzs : zs.length = sz) (hsz : 0 < sz) (hm : 0 < m)
  (hbound : (n + m) * by_ ≤ 140737488355328) (hmax : n + m ≤ maxLen) (hd : Nat.blt d Γ.n = true)
  (next : ∀ g cap, WL Γ ops rest (upd ρ d (.slice (some ⟨g, 0, none⟩) (n + m) cap)) I (L.set k (sl e sz (.slice (some ⟨g, 0, none⟩) (n + m) cap) (n + m) (xs ++ ys))) Q) :
  WL Γ ops ({ dst := some d, op := .call { callee := .builtin .append, args := #[s, x], argTypes := #[t, t] }, type := ty, pos := ps, after := af, guard := none } :: rest) ρ I L Q :=
 WL.effX (fun w hw => by
  obtain ⟨hu, ie, hie, hn⟩ := SlK.und hk.is
  obtain ⟨i, z, hi, hz1, hz2⟩ := zero_cells hz.is
  have hii : ie = i := by rw [hi] at hie; exact (Option.some.inj hie).symm
  subst hii
  have hby : ie.bytes = by_ := by have := hb.is; rw [hi] at this; simpa using this
  have hw1 := hw.perm (pull k L _ hL)
  obtain ⟨g, cap, w', hrun, hown, hgr, hat, hlt⟩ := run_append_lies (P := Γ.P) (w := w) t ty 0 e ie z sz by_ hu hi hz1 hn hby (by rw [hz2]; simpa using hzs) hsz v n xs hw1.sl_own ⟨b, off, none⟩ m c ys hy
   (fun j u hj => by rw [addr_add]; exact hr Γ.E w hw j u hj) (fun u hu => (List.all_eq_true.1 h1) u hu) hm hmax hbound (Nat.zero_le _) w.heap.size rfl
  refine ⟨_, w', I, _, ?_, (hw1.sl_grown hown hgr hat).perm (push_back k L _ _ hL), next g cap⟩
  simp only [execOp, resolve, List.map_toArray, List.map_cons, List.map_nil, hs, hx, pure_bind, invoke, builtin, Sem.run_bind, hrun, Result.andThen_ok]
  rfl) hd
theorem WL.append0 {d t e sz n c : Nat} {ax : Option Addr} {s x : Operand} {v : Value} {xs : List Value} (k : Nat) [hk : SlK Γ.P t e sz]
  (hs : ev ρ s = v) (hL : L[k]? = some (sl e sz v n xs)) (hx : ev ρ x = .slice ax 0 c) (hd : Nat.blt d Γ.n = true)
  (next : WL Γ ops rest (upd ρ d v) I L Q) :
  WL Γ ops ({ dst := some d, op := .call { callee := .builtin .append, args := #[s, x], argTypes := #[t, t] }, type := ty, pos := ps, after := af, guard := none } :: rest) ρ I L Q :=
 WL.val (fun w hw => by
  obtain ⟨hu, ie, hie, hn⟩ := SlK.und hk.is
  have ho := (hw.perm (pull k L _ hL)).sl_own
  have hsrc : Src Γ.P ie.size t (.slice ax 0 c) 0 [] w := by
   cases ax with
   | none => exact Src.ofNil w hu c
   | some a => exact Src.ofSlice w hu a 0 c [] (by simp) (fun j u hj => by simp at hj) (fun u hu => by cases hu)
  have hrun : (Builtin.append_ #[t, t] ty #[v, .slice ax 0 c]).run Γ.P w = .ok v w := by
   rcases ho.2 with ⟨rfl, rfl⟩ | ⟨g, cap, cur, rfl, _, _, hc, _⟩
   ·exact run_append_nothing w t t ty e ie hu hie none 0 0 (Nat.le_refl _) _ hsrc
   ·exact run_append_nothing w t t ty e ie hu hie (some ⟨g, 0, none⟩) n cap hc _ hsrc
  simp only [execOp, resolve, List.map_toArray, List.map_cons, List.map_nil, hs, hx, pure_bind, invoke, builtin, Sem.run_bind, hrun, Result.andThen_ok]
  rfl) hd next
theorem repZ (zs : List Value) : ∀ n, ((Array.range (n * zs.length)).map (zs.toArray[· % zs.toArray.size]!)).toList = (List.replicate n zs).flatten := by
 intro n
 induction n with
 | zero => simp
 | succ n ih =>
  rw [List.replicate_succ', List.flatten_append, ← ih]
  simp only [Array.toList_map, Array.toList_range, List.flatten_cons, List.flatten_nil, List.append_nil]
  rw [Nat.succ_mul, List.range_add, List.map_append]
  congr 1
  apply List.ext_getElem?
  intro j
  simp only [List.map_map, List.getElem?_map, List.getElem?_range]
  by_cases hj : j < zs.length
  ·rw [List.getElem?_range hj]
   simp only [Option.map_some, Function.comp]
   have hm : (n * zs.length + j) % zs.toArray.size = j := by
    rw [List.size_toArray, Nat.mul_comm, Nat.mul_add_mod, Nat.mod_eq_of_lt hj]
   rw [hm]
   simp [hj]
  ·rw [List.getElem?_eq_none (by simpa using hj), List.getElem?_eq_none (by omega)]; rfl
theorem rep_run (zs : List Value) (n : Nat) (h : n * zs.length = 0 ∨ True) : ((Array.range (n * zs.length)).map (zs.toArray[· % zs.toArray.size]!)) = ((List.replicate n zs).flatten).toArray := by
 rw [← repZ]
theorem WL.buildSlice {d t e sz len : Nat} {qs : List (Nat × Operand)} {zs cs : List Value} [hk : SlK Γ.P t e sz] [hz : ZeroK Γ.P e zs] (hzs : zs.length = sz)
  (h : fillL (fun i => some (i * sz, sz)) (List.replicate len zs).flatten (pcs ρ qs) = some cs) (h24 : Nat.ble (len * sz) 16777216 = true) (hd : Nat.blt d Γ.n = true)
  (next : ∀ g, WL Γ ops rest (upd ρ d (.slice (some ⟨g, 0, none⟩) len len)) I (L ++ [Sl.box g e cs]) Q) :
  WL Γ ops ({ dst := some d, op := .buildSlice t len qs.toArray, type := ty, pos := ps, after := af, guard := none } :: rest) ρ I L Q :=
 WL.effX (fun w hw => by
  obtain ⟨hu, ie, hie, hn⟩ := SlK.und hk.is
  have hs : (sizeOf e).run Γ.P w = .ok sz w := by rw [run_sizeOf w hie]; simp [Program.cellsOf, hie, hn]
  obtain ⟨z, hz1, hz2⟩ := ZeroK.run hz.is w
  refine ⟨.slice (some ⟨w.heap.size, 0, none⟩) len len, _, I, _, ?_, hw.alloc (.cells cs.toArray e (0, 0)), next _⟩
  have h24' : ¬ (len * sz > 2 ^ 24) := by have := Nat.le_of_ble_eq_true h24; omega
  have hf := fill_of_fillL (fun i => some (i * sz, sz)) (qs.map fun p => (p.1, ev ρ p.2)) _ cs (by simpa [pcs, Function.comp_def] using h)
  by_cases h0 : len * sz = 0
  ·have hc : ((Array.range (len * sz)).map (fun x => (#[] : Array Value)[x % (#[] : Array Value).size]!)) = ((List.replicate len zs).flatten).toArray := by
    rw [← rep_run zs len (.inr trivial), hzs, h0]; simp
   simp only [execOp, Instr.buildSlice, List.map_toArray, Sem.run_bind, run_underlying hu, Result.andThen_ok, hs, h24', if_false, pure_bind, h0, if_true]
   rw [h0] at hc
   simp only [hc, hf]
   rfl
  ·have hc : ((Array.range (len * sz)).map (fun x => zs.toArray[x % zs.toArray.size]!)) = ((List.replicate len zs).flatten).toArray := by
    rw [← rep_run zs len (.inr trivial), hzs]
   simp only [execOp, Instr.buildSlice, List.map_toArray, Sem.run_bind, run_underlying hu, Result.andThen_ok, hs, h24', if_false, pure_bind, h0, hz1, hz2, hc, hf]
   rfl) hd
/-! ### Calls -/
def picks {α : Type} : List Nat → List α → Option (List α × List α)
 | [], L => some ([], L)
 | k :: ks, L => match L[k]? with
  | none => none
  | some p => match picks ks (L.eraseIdx k) with
   | none => none
   | some (xs, r) => some (p :: xs, r)
theorem picks_perm {α : Type} : ∀ (ks : List Nat) (L xs r : List α), picks ks L = some (xs, r) → L.Perm (xs ++ r)
 | [], L, xs, r, h => by simp [picks] at h; obtain ⟨rfl, rfl⟩ := h; exact List.Perm.refl _
 | k :: ks, L, xs, r, h => by
  simp only [picks] at h
  cases hk : L[k]? with
  | none => rw [hk] at h; cases h
  | some p =>
   rw [hk] at h
   simp only at h
   cases hq : picks ks (L.eraseIdx k) with
   | none => rw [hq] at h; cases h
   | some xr =>
    obtain ⟨xs', r'⟩ := xr
    rw [hq] at h
    simp at h
    obtain ⟨rfl, rfl⟩ := h
    exact (pull k L p hk).trans ((picks_perm ks _ _ _ hq).cons p)
theorem Sat.sub {E : Ev} {w : World} {I : Mem} {L L0 Lr : List HP} (ks : List Nat) (hp : picks ks L = some (L0, Lr)) (h : Sat E w I L) : Sat E w I L0 :=
 (h.perm (picks_perm ks _ _ _ hp)).imp fun m hm => by
  obtain ⟨m1, m2, h1, h2, h3, h4, h5⟩ := sts_append hm
  exact sts_mono h4 h1
theorem Sat.less {E : Ev} {w : World} {I I0 : Mem} {L : List HP} (hI : I0.le I) (h : Sat E w I L) : Sat E w I0 L :=
 ⟨h.tape, h.os, h.output, fun b o hb => h.imm b o (hI b o hb), let ⟨m, a, b, c⟩ := h.own; ⟨m, a, b.le hI (Mem.le.refl _), c⟩⟩
def FnPost (E : Ev) (F : HP) (I : Mem) (R : Value → Mem → List HP → Prop) : Ending → World → Prop := fun e w' => ∃ v I' L', e = .returned v ∧ I.le I' ∧ Sat E w' I' (F :: L') ∧ R v I' L'
def Ctr (P : Program) (f : FuncId) (args : List Value) (I : Mem) (L : List HP) (R : Value → Mem → List HP → Prop) : Prop :=
 ∀ (E : Ev) (w : World) (F : HP), Sat E w I (F :: L) → Calls P f args.toArray w (FnPost E F I R)
theorem Ctr.mono {P : Program} {f : FuncId} {args : List Value} {I : Mem} {L : List HP} {R R' : Value → Mem → List HP → Prop} (h : Ctr P f args I L R) (hr : ∀ v I' L', I.le I' → R v I' L' → R' v I' L') : Ctr P f args I L R' :=
 fun E w F hw => (h E w F hw).mono fun e w' ⟨v, I', L', a, b, c, d⟩ => ⟨v, I', L', a, b, c, hr _ _ _ b d⟩
abbrev Still (I : Mem) (S : Value → Prop) : Value → Mem → List HP → Prop := fun v I' L' => I' = I ∧ L' = [] ∧ S v
theorem Ctr.intro {P : Program} {f : FuncId} {args : List Value} {I : Mem} {L : List HP} {R : Value → Mem → List HP → Prop} {fn : Func} {c : Code} {n : Nat} (hf : P.funcs[f]? = some fn) (hb : fn.body = some c) (hn : fn.ntmps = n)
  (ha : Nat.ble args.length n = true) (h : ∀ E F, WC ⟨P, E, n, []⟩ c (argρ args) I (F :: L) (bodyPost P fn (FnPost E F I R))) : Ctr P f args I L R := fun E w F hw =>
 calls_of_wp hf hb (h E F _ w (by rw [hn]; exact Loc.start (Nat.le_of_ble_eq_true ha)) hw)
class FnK (P : Program) (f : FuncId) : Prop where
 is : ∃ fn c, P.funcs[f]? = some fn ∧ (fn.name == "runtime.NumGoroutine") = false ∧ fn.body = some c
theorem run_enter {P : Program} {f : FuncId} (h : FnK P f) (args : Array Value) (w : World) : (callFunc f args).run P w = .ok (.enter f args) w := by
 obtain ⟨fn, c, hf, hname, hb⟩ := h.is
 have h1 : fn.name ≠ "runtime.NumGoroutine" := by simpa using hname
 simp [callFunc, hf, h1, hb]
theorem run_call {P : Program} {ρ : Nat → Value} {f : FuncId} (h : FnK P f) {x : Operand} {args : List Operand} {ats : Array TypeId} {fs cp vs : List Value} {d : Option Nat} {ty : TypeId} {ps : String} {af : Array Edge} {g : Option (Nat × Bool)}
  (hx : ev ρ x = .func (.func f) fs.toArray cp.toArray) (hv : fs ++ args.map (ev ρ) ++ cp = vs) (w : World) :
  (execOp (ev ρ) { dst := d, op := .call { callee := .value x, args := args.toArray, argTypes := ats }, type := ty, pos := ps, after := af, guard := g }).run P w = .ok (.enter f vs.toArray) w := by
 subst hv
 simp only [execOp, resolve, hx, Deferred.ofValue, pure_bind, invoke, List.map_toArray, List.append_toArray, run_enter h]
theorem WL.callW {d : Option Nat} {f : FuncId} {x : Operand} {args : List Operand} {ats : Array TypeId} {fs cp vs : List Value} {Lc Lr : List HP} {R : Value → Mem → List HP → Prop} (ks : List Nat) [hf : FnK Γ.P f]
  (hx : ev ρ x = .func (.func f) fs.toArray cp.toArray) (hv : fs ++ args.map (ev ρ) ++ cp = vs) (hp : picks ks L = some (Lc, Lr)) (hc : Ctr Γ.P f vs I Lc R)
  (next : ∀ v I' L', I.le I' → R v I' L' → ∀ a w, Loc Γ.n Γ.ds ρ a → Sat Γ.E w I' (Lr ++ L') → wpList Γ.P ops Q rest (a.put d v) w) :
  WL Γ ops ({ dst := d, op := .call { callee := .value x, args := args.toArray, argTypes := ats }, type := ty, pos := ps, after := af, guard := none } :: rest) ρ I L Q := by
 intro a w ha hw
 simp only [wpList, Region.wanted, if_true]
 refine .inl ?_
 unfold Oper.wp
 rw [ha.ev, run_call hf hx hv w]
 have hw1 : Sat Γ.E w I (sts Lr :: Lc) := ((hw.perm (picks_perm ks _ _ _ hp)).perm List.perm_append_comm).imp fun m hm => sts_fold hm
 refine (hc Γ.E w _ hw1).mono fun e w' ⟨v, I', L', he, hI, hw', hR⟩ => ?_
 subst he
 exact next v I' L' hI hR a w' ha (hw'.imp fun m hm => sts_unfold hm)
theorem WL.call {d : Nat} {f : FuncId} {x : Operand} {args : List Operand} {ats : Array TypeId} {fs cp vs : List Value} {Lc Lr : List HP} {R : Value → Mem → List HP → Prop} (ks : List Nat) [hf : FnK Γ.P f]
  (hx : ev ρ x = .func (.func f) fs.toArray cp.toArray) (hv : fs ++ args.map (ev ρ) ++ cp = vs) (hp : picks ks L = some (Lc, Lr)) (hc : Ctr Γ.P f vs I Lc R) (hd : Nat.blt d Γ.n = true)
  (next : ∀ v I' L', I.le I' → R v I' L' → WL Γ ops rest (upd ρ d v) I' (Lr ++ L') Q) :
  WL Γ ops ({ dst := some d, op := .call { callee := .value x, args := args.toArray, argTypes := ats }, type := ty, pos := ps, after := af, guard := none } :: rest) ρ I L Q :=
 WL.callW ks hx hv hp hc fun v I' L' hI hR a w ha hw => next v I' L' hI hR _ w (ha.put hd v) hw
theorem WL.callS {d : Nat} {f : FuncId} {x : Operand} {args : List Operand} {ats : Array TypeId} {fs cp vs : List Value} {S : Value → Prop} [hf : FnK Γ.P f]
  (hx : ev ρ x = .func (.func f) fs.toArray cp.toArray) (hv : fs ++ args.map (ev ρ) ++ cp = vs) (hc : Ctr Γ.P f vs I [] (Still I S)) (hd : Nat.blt d Γ.n = true)
  (next : ∀ v, S v → WL Γ ops rest (upd ρ d v) I L Q) :
  WL Γ ops ({ dst := some d, op := .call { callee := .value x, args := args.toArray, argTypes := ats }, type := ty, pos := ps, after := af, guard := none } :: rest) ρ I L Q :=
 WL.callW [] hx hv rfl hc fun v I' L' hI ⟨h1, h2, hS⟩ a w ha hw => by
  subst h1; subst h2
  exact next v hS _ w (ha.put hd v) (by simpa using hw)
end
/-! ### Ends -/
section
variable {Γ : Cx} {ρ : Nat → Value} {I : Mem} {L : List HP} {Q : Post}
def resF (tmps : Array Value) : ResultVar → Sem Value
 | .tmp t => pure (tmps.getD t undef)
 | .cell x t => do loadVar t (← asAddr (tmps.getD x undef))
theorem results_resF (fn : Func) (tmps : Array Value) : results fn tmps = (do let vs ← fn.results.mapM (resF tmps); pure (if h : vs.size = 1 then vs[0] else .tuple vs)) := rfl
def ResIs (Γ : Cx) (ρ : Nat → Value) (I : Mem) (L : List HP) (r : ResultVar) (v : Value) : Prop :=
 ∀ a w, Loc Γ.n Γ.ds ρ a → Sat Γ.E w I L → (resF a.tmps r).run Γ.P w = .ok v w
theorem ResIs.tmp {t : Nat} {v : Value} (h : ρ t = v) : ResIs Γ ρ I L (.tmp t) v := fun a w ha hw => by simp only [resF, ha.get, h]; rfl
theorem ResIs.cellA {x t n b off : Nat} {cs : List Value} [hk : TyK Γ.P t true n] (h : ρ x = .pointer (some ⟨b, off, none⟩)) (hr : Rd I L b off cs) (hn : cs.length = n) : ResIs Γ ρ I L (.cell x t) (.agg cs.toArray) := fun a w ha hw => by
 have h2 := run_loadCells_list (P := Γ.P) w ⟨b, off, none⟩ cs (fun j v hj => by rw [addr_add]; exact hr Γ.E w hw j v hj)
 rw [hn] at h2
 simp only [resF, ha.get, h, asAddr, pure_bind, loadVar, Sem.run_bind, TyK.agg hk.is, TyK.size hk.is, Result.andThen_ok, if_true, h2]
 all_goals rfl
theorem ResIs.cellO {x t n b off bt : Nat} {cs : List Value} (k : Nat) [hk : TyK Γ.P t true n] (h : ρ x = .pointer (some ⟨b, off, none⟩)) (hL : L[k]? = some (box b bt cs)) (hc : Nat.ble (off + n) cs.length = true) :
  ResIs Γ ρ I L (.cell x t) (.agg ((cs.drop off).take n).toArray) := ResIs.cellA h (Rd.ownN n k hL rfl) (by have := Nat.le_of_ble_eq_true hc; simp; omega)
theorem ResIs.cellS {x t b off : Nat} {v : Value} [hk : TyK Γ.P t false 1] (h : ρ x = .pointer (some ⟨b, off, none⟩)) (hr : Rd I L b off [v]) : ResIs Γ ρ I L (.cell x t) v := fun a w ha hw => by
 have h2 := hr Γ.E w hw 0 v rfl
 simp only [resF, ha.get, h, asAddr, pure_bind, loadVar, Sem.run_bind, TyK.agg hk.is, Result.andThen_ok, Bool.false_eq_true, if_false]
 simp only [load, Sem.run, Nat.add_zero] at h2 ⊢
 simp only [h2]
def RunRes (Γ : Cx) (fn : Func) (ρ : Nat → Value) (I : Mem) (L : List HP) (v : Value) : Prop := ∀ a w, Loc Γ.n Γ.ds ρ a → Sat Γ.E w I L → (results fn a.tmps).run Γ.P w = .ok v w
theorem RunRes.r0 {fn : Func} (hr : fn.results = #[]) : RunRes Γ fn ρ I L (.tuple #[]) := fun a w ha hw => by
 rw [results_resF]; simp [hr]
theorem RunRes.r1 {fn : Func} {r1 : ResultVar} {v1 : Value} (hr : fn.results = #[r1]) (h1 : ResIs Γ ρ I L r1 v1) : RunRes Γ fn ρ I L v1 := fun a w ha hw => by
 rw [results_resF]; simp [hr, Sem.run_bind, h1 a w ha hw]
theorem RunRes.r2 {fn : Func} {r1 r2 : ResultVar} {v1 v2 : Value} (hr : fn.results = #[r1, r2]) (h1 : ResIs Γ ρ I L r1 v1) (h2 : ResIs Γ ρ I L r2 v2) : RunRes Γ fn ρ I L (.tuple #[v1, v2]) := fun a w ha hw => by
 rw [results_resF]; simp [hr, Sem.run_bind, h1 a w ha hw, h2 a w ha hw]
theorem RunRes.r3 {fn : Func} {r1 r2 r3 : ResultVar} {v1 v2 v3 : Value} (hr : fn.results = #[r1, r2, r3]) (h1 : ResIs Γ ρ I L r1 v1) (h2 : ResIs Γ ρ I L r2 v2) (h3 : ResIs Γ ρ I L r3 v3) : RunRes Γ fn ρ I L (.tuple #[v1, v2, v3]) := fun a w ha hw => by
 rw [results_resF]; simp [hr, Sem.run_bind, h1 a w ha hw, h2 a w ha hw, h3 a w ha hw]
theorem RunRes.r4 {fn : Func} {r1 r2 r3 r4 : ResultVar} {v1 v2 v3 v4 : Value} (hr : fn.results = #[r1, r2, r3, r4]) (h1 : ResIs Γ ρ I L r1 v1) (h2 : ResIs Γ ρ I L r2 v2) (h3 : ResIs Γ ρ I L r3 v3) (h4 : ResIs Γ ρ I L r4 v4) : RunRes Γ fn ρ I L (.tuple #[v1, v2, v3, v4]) := fun a w ha hw => by
 rw [results_resF]; simp [hr, Sem.run_bind, h1 a w ha hw, h2 a w ha hw, h3 a w ha hw, h4 a w ha hw]
theorem WX.doneR {fn : Func} {F : HP} {I0 : Mem} {L' Lr : List HP} {v : Value} {R : Value → Mem → List HP → Prop} (hres : RunRes Γ fn ρ I L v) (ks : List Nat) (hp : picks (0 :: ks) L = some (F :: L', Lr)) (hI : I0.le I) (hR : R v I L') (hds : Γ.ds = [] := by rfl) :
  WX Γ .ret ρ I L (bodyPost Γ.P fn (FnPost Γ.E F I0 R)) := fun a w ha hw =>
 ⟨ha.defers.trans hds, v, hres a w ha hw, v, I, L', rfl, hI, (hw.perm (picks_perm _ _ _ _ hp)).imp fun m hm => by
  obtain ⟨m1, m2, h1, h2, h3, h4, h5⟩ := sts_append hm
  exact sts_mono h4 h1, hR⟩
theorem WX.doneN {fn : Func} {F : HP} {I0 : Mem} {L' Lr : List HP} {v : Value} {R : Value → Mem → List HP → Prop} (hres : RunRes Γ fn ρ I L v) (ks : List Nat) (hp : picks (0 :: ks) L = some (F :: L', Lr)) (hI : I0.le I) (hR : R v I L') (hds : Γ.ds = [] := by rfl) :
  WX Γ .normal ρ I L (bodyPost Γ.P fn (FnPost Γ.E F I0 R)) := WX.doneR hres ks hp hI hR hds
end
/-! ### Regions that draw their order -/
class PF (Q : Post) : Prop where
 no : ∀ c a w, ¬ Q (.panic c) a w
instance {P : Program} {fn : Func} {E : Ev} {F : HP} {I : Mem} {R : Value → Mem → List HP → Prop} : PF (bodyPost P fn (FnPost E F I R)) := ⟨fun c a w h => by
 obtain ⟨_, v, I', L', he, _⟩ := h; cases he⟩
instance {K : Act → World → Prop} {Q : Post} [h : PF Q] : PF (Exit.then K Q) := ⟨fun c a w => h.no c a w⟩
instance {id : Nat} {Q : Post} [h : PF Q] : PF (Exit.inBlock id Q) := ⟨fun c a w => h.no c a w⟩
def anyT (P : Program) (ops : Array Oper) (Q : Post) (z : Nat) (S : World → Prop) : Nat → Array Bool → Act → World → Prop
 | 0, l, a, w => Region.ready .any ops l = [] ∧ Q .normal a w
 | n + 1, l, a, w => (Region.ready .any ops l = [] → Q .normal a w) ∧
  ∀ i ∈ Region.ready .any ops l, wpOp P ops Q i (fun a' w' => (i = z ∨ S w') ∧ anyT P ops Q z S n (l.setIfInBounds i true) a' w') a w
def waitsFor (ops : Array Oper) (z i : Nat) : Bool := match ops[z]? with
 | none => true
 | some o => z != i && o.after.any fun e => Region.binds .any e && e.on == i
theorem anyT_any {P : Program} {ops : Array Oper} {Q : Post} {z : Nat} {S : World → Prop} : ∀ (n : Nat) (l : Array Bool) (a : Act) (w : World), anyT P ops Q z S n l a w → wpAny P .any ops Q n l a w
 | 0, _, _, _, h => h
 | n + 1, _, _, _, h => ⟨h.1, fun i hi => wpOp_mono (fun _ _ k => anyT_any n _ _ _ k.2) (h.2 i hi)⟩
theorem anyT_first {P : Program} {ops : Array Oper} {Q : Post} {z : Nat} {S : World → Prop} {i : Nat} {oi : Oper} {v : Value} (hi : ops[i]? = some oi) (hsel : Region.noSelect ops = true) (hz : waitsFor ops z i = true) (hQ : ∀ c a w, ¬ Q (.panic c) a w) :
  ∀ (n : Nat) (l : Array Bool) (a : Act) (w : World), (∀ j oj, ops[j]? = some oj → j ≠ i → l.getD j true = false → (∀ e ∈ oj.after, Region.binds .any e = true → e.on ≠ i) → oi.apart ops oj = true) →
   i ∈ Region.ready .any ops l → YieldsIf P ops S oi v a → S w → anyT P ops Q z S n (l.setIfInBounds i true) (a.put oi.dst v) w → anyT P ops Q z S (n + 1) l a w := by
 have hsel' := Region.noSelect_spec hsel
 intro n
 induction n with
 | zero =>
  intro l a w _ hr hy hS H
  refine ⟨fun h => (by rw [h] at hr; cases hr), fun j hj => ?_⟩
  by_cases e : j = i
  ·rw [e]; exact hy.wpOp hi hS ⟨.inr hS, H⟩
  ·exact absurd (ready_mono hj e) (by rw [H.1]; simp)
 | succ n ih =>
  intro l a w hfree hr hy hS H
  refine ⟨fun h => (by rw [h] at hr; cases hr), fun j hj => ?_⟩
  by_cases e : j = i
  ·rw [e]; exact hy.wpOp hi hS ⟨.inr hS, H⟩
  ·obtain ⟨hun, oj, hoj, hall⟩ := mem_ready.1 hj
   have hi0 := (mem_ready.1 hr).1
   have hno : ∀ x ∈ oj.after, Region.binds .any x = true → x.on ≠ i := fun x hx hb he => by
    have h1 := hall x hx hb
    rw [he] at h1
    rw [Array.getD_eq_getD_getElem?] at h1 hi0
    cases hq : l[i]? <;> rw [hq] at h1 hi0 <;> simp at h1 hi0
    rw [h1] at hi0; cases hi0
   have hjz : j ≠ z := fun hjz => by
    subst hjz
    unfold waitsFor at hz
    rw [hoj] at hz
    simp only [Bool.and_eq_true, Array.any_eq_true', beq_iff_eq] at hz
    obtain ⟨x, hx, hb, hxi⟩ := hz.2
    exact hno x hx hb hxi
   have step := wpOp_putIf hoj (hfree j oj hoj e hun hno) (fun cs b => hsel' i oi cs b hi) (fun cs b => hsel' j oj cs b hoj) (fun c a w h => absurd h (hQ c _ w)) hy (H.2 j (ready_mono hj e))
   refine wpOp_mono (fun a' w' ⟨hy', hS', hn⟩ => ?_) step
   have hS2 := hS'.resolve_left hjz
   refine ⟨.inr hS2, ih _ a' w' (fun k ok hk hki hun2 hno2 => hfree k ok hk hki ?_ hno2) (ready_mono hr (Ne.symm e)) hy' hS2 ?_⟩
   ·by_cases hjk : j = k
    ·subst hjk; exact hun
    ·rwa [getD_set_ne true hjk] at hun2
   ·rw [Array.setIfInBounds_comm _ _ (Ne.symm e)] at hn; exact hn
def WA (Γ : Cx) (ops : Array Oper) (Q : Post) (z : Nat) (I0 : Mem) (L0 : List HP) (fuel : Nat) (listed : Array Bool) (ρ : Nat → Value) (I : Mem) (L : List HP) : Prop :=
 ∀ a w, Loc Γ.n Γ.ds ρ a → Sat Γ.E w I L → anyT Γ.P ops Q z (fun w => Sat Γ.E w I0 L0) fuel listed a w
section
variable {Γ : Cx} {ops : Array Oper} {Q : Post} {z : Nat} {I I0 : Mem} {L L0 : List HP} {ρ : Nat → Value} {fuel : Nat} {listed : Array Bool}
theorem WC.draw {id : Nat} (z : Nat) (I0 : Mem) (L0 : List HP) (hm : Γ.P.follows .mixedOrders = true) {n : Nat} {l : Array Bool} (hn : ops.size = n) (hl : Array.replicate n false = l) (h : WA Γ ops Q z I0 L0 n l ρ I L) : WC Γ (.region id ops true) ρ I L Q :=
 fun a w ha hw => wp_region_any hm (anyT_any _ _ _ _ (by rw [hn, hl]; exact h a _ ha hw.drew))
theorem WC.drawK {id : Nat} (z : Nat) (I0 : Mem) (ks : List Nat) {Lr : List HP} (hp : picks ks L = some (L0, Lr)) (hm : Γ.P.follows .mixedOrders = true) {n : Nat} {l : Array Bool} (hn : ops.size = n) (hl : Array.replicate n false = l) (h : WA Γ ops Q z I0 L0 n l ρ I L) : WC Γ (.region id ops true) ρ I L Q := WC.draw z I0 L0 hm hn hl h
def canTake (ops : Array Oper) (listed : Array Bool) (z i : Nat) : Bool := Region.noSelect ops && Region.free .any ops listed i && (Region.ready .any ops listed).contains i && waitsFor ops z i
theorem WA.takeY [hq : PF Q] {o : Oper} {d : Nat} {v : Value} {l' : Array Bool} (i : Nat) (hi : ops[i]? = some o) (hd' : o.dst = some d)
  (hs : canTake ops listed z i = true) (hl : listed.setIfInBounds i true = l') (hS : ∀ w, Sat Γ.E w I L → Sat Γ.E w I0 L0)
  (hy : ∀ a, Loc Γ.n Γ.ds ρ a → YieldsIf Γ.P ops (fun w => Sat Γ.E w I0 L0) o v a) (hd : Nat.blt d Γ.n = true) (next : WA Γ ops Q z I0 L0 fuel l' (upd ρ d v) I L) : WA Γ ops Q z I0 L0 (fuel + 1) listed ρ I L := fun a w ha hw => by
 simp only [canTake, Bool.and_eq_true] at hs
 refine anyT_first hi hs.1.1.1 hs.2 hq.no fuel listed a w (Region.free_spec hi hs.1.1.2) (by simpa using hs.1.2) (hy a ha) (hS w hw) ?_
 rw [hl, hd']; exact next _ w (ha.put hd v) hw
theorem WA.take [hq : PF Q] {d : Nat} {op : Op} {ty : TypeId} {ps : String} {af : Array Edge} {v : Value} {l' : Array Bool} (i : Nat) (hi : ops[i]? = some { dst := some d, op := op, type := ty, pos := ps, after := af, guard := none })
  (hs : canTake ops listed z i = true) (hl : listed.setIfInBounds i true = l') (hS : ∀ w, Sat Γ.E w I L → Sat Γ.E w I0 L0)
  (hv : Val Γ ρ I0 L0 op ty v) (hd : Nat.blt d Γ.n = true) (next : WA Γ ops Q z I0 L0 fuel l' (upd ρ d v) I L) : WA Γ ops Q z I0 L0 (fuel + 1) listed ρ I L :=
 WA.takeY i hi rfl hs hl hS (fun a ha => .inl ⟨rfl, fun w' hw' => by rw [ha.ev]; exact hv w' hw'⟩) hd next
theorem WA.takeGT [hq : PF Q] {d j t : Nat} {b : Bool} {op : Op} {ty : TypeId} {ps : String} {af : Array Edge} {v : Value} {l' : Array Bool} (i : Nat) (hi : ops[i]? = some { dst := some d, op := op, type := ty, pos := ps, after := af, guard := some (j, b) })
  (hs : canTake ops listed z i = true) (hl : listed.setIfInBounds i true = l') (hS : ∀ w, Sat Γ.E w I L → Sat Γ.E w I0 L0)
  (hj : (ops[j]?).bind (·.dst) = some t) (hb : ρ t = .bool b)
  (hv : Val Γ ρ I0 L0 op ty v) (hd : Nat.blt d Γ.n = true) (next : WA Γ ops Q z I0 L0 fuel l' (upd ρ d v) I L) : WA Γ ops Q z I0 L0 (fuel + 1) listed ρ I L :=
 WA.takeY i hi rfl hs hl hS (fun a ha => .inl ⟨by simp [Region.wanted, ha.yield hj hb], fun w' hw' => by rw [ha.ev]; exact hv w' hw'⟩) hd next
theorem WA.takeGF [hq : PF Q] {d j t : Nat} {b c : Bool} {op : Op} {ty : TypeId} {ps : String} {af : Array Edge} {l' : Array Bool} (i : Nat) (hi : ops[i]? = some { dst := some d, op := op, type := ty, pos := ps, after := af, guard := some (j, b) })
  (hs : canTake ops listed z i = true) (hl : listed.setIfInBounds i true = l') (hS : ∀ w, Sat Γ.E w I L → Sat Γ.E w I0 L0)
  (hj : (ops[j]?).bind (·.dst) = some t) (hb : ρ t = .bool c) (hcb : (c == b) = false)
  (hd : Nat.blt d Γ.n = true) (next : WA Γ ops Q z I0 L0 fuel l' (upd ρ d undef) I L) : WA Γ ops Q z I0 L0 (fuel + 1) listed ρ I L :=
 WA.takeY i hi rfl hs hl hS (fun a ha => .inr ⟨by simp only [Region.wanted, ha.yield hj hb]; simpa using hcb, rfl⟩) hd next
theorem WA.takeGU [hq : PF Q] {d j t : Nat} {b : Bool} {op : Op} {ty : TypeId} {ps : String} {af : Array Edge} {l' : Array Bool} (i : Nat) (hi : ops[i]? = some { dst := some d, op := op, type := ty, pos := ps, after := af, guard := some (j, b) })
  (hs : canTake ops listed z i = true) (hl : listed.setIfInBounds i true = l') (hS : ∀ w, Sat Γ.E w I L → Sat Γ.E w I0 L0)
  (hj : (ops[j]?).bind (·.dst) = some t) (hb : ρ t = undef)
  (hd : Nat.blt d Γ.n = true) (next : WA Γ ops Q z I0 L0 fuel l' (upd ρ d undef) I L) : WA Γ ops Q z I0 L0 (fuel + 1) listed ρ I L :=
 WA.takeY i hi rfl hs hl hS (fun a ha => .inr ⟨by simp [Region.wanted, ha.yieldU hj hb], rfl⟩) hd next
def WAK (Γ : Cx) (ops : Array Oper) (Q : Post) (z i : Nat) (I0 : Mem) (L0 : List HP) (fuel : Nat) (l' : Array Bool) : Act → World → Prop :=
 fun a w => (i = z ∨ Sat Γ.E w I0 L0) ∧ anyT Γ.P ops Q z (fun w => Sat Γ.E w I0 L0) fuel l' a w
theorem wpOp_of_list {P : Program} {i : Nat} {o : Oper} (hi : ops[i]? = some o) {K : Act → World → Prop} {a : Act} {w : World} (h : wpList P ops (Exit.then K Q) [o] a w) : wpOp P ops Q i K a w := by
 unfold wpOp
 rw [hi]
 simp only [wpList] at h ⊢
 split
 ·rename_i hw
  rw [if_pos hw] at h
  refine h.imp (fun h => ?_) (fun ⟨h1, a, w, h2⟩ => ⟨h1, a, w, h2⟩)
  unfold Oper.wp at *
  generalize (execOp a.eval o).run P w = r at *
  cases r with
  | ok n w' => cases n <;> simp only [Oper.upon] at h ⊢ <;> first
    | exact h
    | exact Calls.mono h (fun e w'' he => by
      cases e with
      | returned v => exact he
      | panicked c => exact he
      | outgrown => obtain ⟨a, w, h⟩ := he; exact ⟨a, w, h⟩)
    | exact Rows.mono h (fun _ _ he => he)
  | halt x w' => cases x <;> simp only [Oper.upon] at h ⊢ <;> exact h
 ·rename_i hw
  rw [if_neg hw] at h
  exact h
theorem anyT_all {P : Program} {S : World → Prop} {rs : List Nat} {a : Act} {w : World} (hr : Region.ready .any ops listed = rs) (hne : rs ≠ [])
  (h : ∀ i ∈ rs, wpOp P ops Q i (fun a' w' => (i = z ∨ S w') ∧ anyT P ops Q z S fuel (listed.setIfInBounds i true) a' w') a w) : anyT P ops Q z S (fuel + 1) listed a w :=
 ⟨fun h0 => absurd (hr ▸ h0) hne, hr ▸ h⟩
theorem WA.eff1 {i : Nat} {d : Option Nat} {op : Op} {ty : TypeId} {ps : String} {af : Array Edge} {g : Option (Nat × Bool)} {l' : Array Bool} (hr : Region.ready .any ops listed = [i]) (hi : ops[i]? = some { dst := d, op := op, type := ty, pos := ps, after := af, guard := g }) (hl : listed.setIfInBounds i true = l')
  (h : WL Γ ops [{ dst := d, op := op, type := ty, pos := ps, after := af, guard := g }] ρ I L (Exit.then (WAK Γ ops Q z i I0 L0 fuel l') Q)) : WA Γ ops Q z I0 L0 (fuel + 1) listed ρ I L := fun a w ha hw =>
 anyT_all hr (by simp) fun j hj => by
  simp at hj; subst hj
  rw [hl]
  exact wpOp_of_list hi (h a w ha hw)
theorem WA.eff2 {i j : Nat} {d d' : Option Nat} {op op' : Op} {ty ty' : TypeId} {ps ps' : String} {af af' : Array Edge} {g g' : Option (Nat × Bool)} {l1 l2 : Array Bool} (hr : Region.ready .any ops listed = [i, j]) (hi : ops[i]? = some { dst := d, op := op, type := ty, pos := ps, after := af, guard := g }) (hj : ops[j]? = some { dst := d', op := op', type := ty', pos := ps', after := af', guard := g' }) (hl1 : listed.setIfInBounds i true = l1) (hl2 : listed.setIfInBounds j true = l2)
  (h1 : WL Γ ops [{ dst := d, op := op, type := ty, pos := ps, after := af, guard := g }] ρ I L (Exit.then (WAK Γ ops Q z i I0 L0 fuel l1) Q)) (h2 : WL Γ ops [{ dst := d', op := op', type := ty', pos := ps', after := af', guard := g' }] ρ I L (Exit.then (WAK Γ ops Q z j I0 L0 fuel l2) Q)) : WA Γ ops Q z I0 L0 (fuel + 1) listed ρ I L := fun a w ha hw =>
 anyT_all hr (by simp) fun k hk => by
  simp at hk
  rcases hk with rfl | rfl
  ·rw [hl1]; exact wpOp_of_list hi (h1 a w ha hw)
  ·rw [hl2]; exact wpOp_of_list hj (h2 a w ha hw)
theorem WK.anyStep {i : Nat} {l' : Array Bool} (hS : ∀ w, Sat Γ.E w I L → Sat Γ.E w I0 L0) (h : WA Γ ops Q z I0 L0 fuel l' ρ I L) : WX Γ .normal ρ I L (Exit.then (WAK Γ ops Q z i I0 L0 fuel l') Q) := fun a w ha hw => ⟨.inr (hS w hw), h a w ha hw⟩
theorem WK.anyLast {l' : Array Bool} (h : WA Γ ops Q z I0 L0 fuel l' ρ I L) : WX Γ .normal ρ I L (Exit.then (WAK Γ ops Q z z I0 L0 fuel l') Q) := fun a w ha hw => ⟨.inl rfl, h a w ha hw⟩
theorem WA.done (hr : Region.ready .any ops listed = []) (h : WX Γ .normal ρ I L Q) : WA Γ ops Q z I0 L0 fuel listed ρ I L := fun a w ha hw => by
 cases fuel with
 | zero => exact ⟨hr, h a w ha hw⟩
 | succ n => exact ⟨fun _ => h a w ha hw, by rw [hr]; simp⟩
end
end Go.Sl
