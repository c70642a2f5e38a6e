/-
 What is frozen is new memory; memory of which only the shape is kept.
-/
import Derived.Test.YtggcpoleklcmkaaGreatDoorX3
import Derived.Test.YtggcpoleklcmkaaGreatDoorProg
import Derived.Test.YtggcpoleklcmkaaGreatDoorX2
set_option linter.unusedVariables false
set_option linter.unusedSimpArgs false
set_option maxRecDepth 100000
set_option maxHeartbeats 8000000
namespace Go.Sl
open Go.Ls
def NewV (I0 I : Mem) (e : Nat) (v : Value) : Prop := ∀ a n cap, v = .slice (some a) n cap → I0 a.block = none ∧ ∃ c, I a.block = some (.cells c e (0, 0))
theorem NewV.mono {I0 I I' : Mem} {e : Nat} {v : Value} (h : NewV I0 I e v) (hI : I.le I') : NewV I0 I' e v := fun a n cap hv => by
 obtain ⟨h1, c, h2⟩ := h a n cap hv
 exact ⟨h1, c, hI _ _ h2⟩
theorem NewV.less {I0 I1 I : Mem} {e : Nat} {v : Value} (h : NewV I1 I e v) (hI : I0.le I1) : NewV I0 I e v := fun a n cap hv => by
 obtain ⟨h1, h2⟩ := h a n cap hv
 refine ⟨?_, h2⟩
 cases hx : I0 a.block with
 | none => rfl
 | some o => rw [hI _ _ hx] at h1; cases h1
theorem NewV.part {I0 I : Mem} {e b o1 o2 n1 n2 c1 c2 : Nat} (h : NewV I0 I e (.slice (some ⟨b, o1, none⟩) n1 c1)) : NewV I0 I e (.slice (some ⟨b, o2, none⟩) n2 c2) := fun a n cap hv => by
 injection hv with hv
 injection hv with hv
 subst hv
 exact h ⟨b, o1, none⟩ _ _ rfl
section
variable {E : Ev} {w : World} {I : Mem} {L : List HP}
theorem Sat.freezeN {e sz n : Nat} {v : Value} {xs : List Value} (h : Sat E w I (sl e sz v n xs :: L)) : ∃ I', I.le I' ∧ Sat E w I' L ∧ SlAt I' v n xs ∧ NewV I I' e v := by
 obtain ⟨m, a, d, m1, m2, e1, e2, e3, ⟨hl, e4⟩, e5⟩ := h.own
 rcases e4 with ⟨rfl, rfl⟩ | ⟨g, cap, cur, rfl, hg, h1, h2, h3, h4⟩
 ·obtain ⟨I', q1, q2, q3⟩ := h.freezeAt
  exact ⟨I', q1, q2, q3, fun a n cap h => by cases h⟩
 ·have hb : Sat E w I (pt g (.cells cur e (0, 0)) :: L) := ⟨h.tape, h.os, h.output, h.imm, m, a, d, m1, m2, e1, e2, e3, hg, e5⟩
  have hI : I g = none := by
   rcases d g with h | h
   ·exact h
   ·rw [e1 _ _ hg] at h; cases h
  refine ⟨_, hb.freeze.2, hb.freeze.1, ⟨some ⟨g, 0, none⟩, cap, rfl, ⟨h1, h2⟩, .inr ⟨g, 0, rfl, cur, e, (0, 0), by simp [Mem.ins], fun j v hj => ?_⟩⟩, fun a n' cap' hv => ?_⟩
  ·rw [← h4, List.getElem?_take] at hj
   split at hj
   ·simpa using hj
   ·cases hj
  ·cases hv
   exact ⟨hI, cur, by simp [Mem.ins]⟩
end
section
variable {Γ : Cx} {ops : Array Oper} {rest : List Oper} {ρ : Nat → Value} {I : Mem} {L : List HP} {Q : Post} {ty : TypeId} {ps : String} {af : Array Edge} {d t : Nat}
theorem WX.freezeN {α : Type} {R : Rep α} [hR : RepMono R] {c : Exit} {e sz : Nat} {v : Value} {l : List α} {p : HP} {L' : List HP} (k : Nat) (hL : L[k]? = some p) (hp : OwnL R e sz I l v p) [hE : EraL L k L'] (next : ∀ I', I.le I' → LsAt R I' l v → NewV I I' e v → WX Γ c ρ I' L' Q) : WX Γ c ρ I L Q := by
 obtain ⟨css, rfl, h2⟩ := hp
 intro a w ha hw
 obtain ⟨I', h1, h3, h4, h5⟩ := (hw.perm (pull k L _ hL)).freezeN
 rw [hE.is] at h3
 exact next I' h1 ⟨css, h4, h2.imp fun a b h => hR.mono h h1⟩ h5 a w ha h3
theorem WL.freezeN {α : Type} {R : Rep α} [hR : RepMono R] {e sz : Nat} {v : Value} {l : List α} {p : HP} {L' : List HP} (k : Nat) (hL : L[k]? = some p) (hp : OwnL R e sz I l v p) [hE : EraL L k L'] (next : ∀ I', I.le I' → LsAt R I' l v → NewV I I' e v → WL Γ ops rest ρ I' L' Q) : WL Γ ops rest ρ I L Q := by
 obtain ⟨css, rfl, h2⟩ := hp
 intro a w ha hw
 obtain ⟨I', h1, h3, h4, h5⟩ := (hw.perm (pull k L _ hL)).freezeN
 rw [hE.is] at h3
 exact next I' h1 ⟨css, h4, h2.imp fun a b h => hR.mono h h1⟩ h5 a w ha h3
end
/-! ### memory of which only the shape is kept -/
theorem Mem.unS {a b : Mem} {k : Nat} {o : Obj} (h : (a.un b) k = some o) : a k = some o ∨ b k = some o := by
 unfold Mem.un at h
 cases ha : a k with
 | none => rw [ha] at h; exact .inr h
 | some x => rw [ha] at h; exact .inl h
theorem Mem.unN {a b : Mem} {k : Nat} (ha : a k = none) (hb : b k = none) : (a.un b) k = none := by unfold Mem.un; rw [ha, hb]; rfl
theorem Mem.unL {a b : Mem} {k : Nat} {o : Obj} (ha : a k = some o) : (a.un b) k = some o := by unfold Mem.un; rw [ha]; rfl
theorem Mem.unR {a b : Mem} {k : Nat} (ha : a k = none) : (a.un b) k = b k := by unfold Mem.un; rw [ha]; rfl
def simO (t : Nat → Nat → Prop) : Obj → Obj → Prop
 | .cells c e fr, o' => ∃ c', o' = .cells c' e fr ∧ c'.size = c.size ∧ ∀ j, t e j → c'[j]? = c[j]?
 | o, o' => o' = o
theorem simO.refl (t : Nat → Nat → Prop) (o : Obj) : simO t o o := by
 cases o
 case cells c e fr => exact ⟨c, rfl, rfl, fun _ _ => rfl⟩
 all_goals rfl
def simM (t : Nat → Nat → Prop) (J : Mem) : HP := fun m => ∀ b o, J b = some o → ∃ o', m b = some o' ∧ simO t o o'
def Mem.minus (I' I : Mem) : Mem := fun b => match I b with | none => I' b | some _ => none
def Mem.del (J : Mem) (b : Nat) : Mem := fun k => if k = b then none else J k
theorem Mem.minus_at {I' I : Mem} {b : Nat} (h : I b = none) : Mem.minus I' I b = I' b := by unfold Mem.minus; rw [h]
theorem Mem.minus_le {I' I : Mem} {b : Nat} {o : Obj} (h : Mem.minus I' I b = some o) : I b = none ∧ I' b = some o := by
 unfold Mem.minus at h
 split at h
 ·rename_i hb; exact ⟨hb, h⟩
 ·cases h
theorem Sat.thaw {E : Ev} {w : World} {I I' : Mem} {L : List HP} (t : Nat → Nat → Prop) (hI : I.le I') (h : Sat E w I' L) : Sat E w I (simM t (Mem.minus I' I) :: L) := by
 obtain ⟨m, a, d, hs⟩ := h.own
 refine ⟨h.tape, h.os, h.output, fun b o hb => h.imm b o (hI b o hb), (Mem.minus I' I).un m, fun b o hb => ?_, fun b => ?_, Mem.minus I' I, m, Mem.le_un_left _ _, Mem.le_un_right ?_, ?_, fun b o hb => ⟨o, hb, simO.refl t o⟩, hs⟩
 ·rcases Mem.unS hb with hx | hx
  ·exact h.imm _ _ (Mem.minus_le hx).2
  ·exact a b o hx
 ·cases hx : I b with
  | none => exact .inl rfl
  | some o =>
   right
   have h1 : Mem.minus I' I b = none := by unfold Mem.minus; rw [hx]
   have h2 : m b = none := by
    rcases d b with h | h
    ·rw [hI b o hx] at h; cases h
    ·exact h
   exact Mem.unN h1 h2
 all_goals
  intro b
  cases hx : Mem.minus I' I b with
  | none => exact .inl rfl
  | some o =>
   right
   rcases d b with h | h
   ·rw [(Mem.minus_le hx).2] at h; cases h
   ·exact h
theorem Sat.simOut {E : Ev} {w : World} {I J : Mem} {R : List HP} {t : Nat → Nat → Prop} {b e : Nat} {c : Array Value} {fr : Nat × Nat} (hJ : J b = some (.cells c e fr)) (h : Sat E w I (simM t J :: R)) :
  ∃ c' : Array Value, c'.size = c.size ∧ (∀ j, t e j → c'[j]? = c[j]?) ∧ Sat E w I (pt b (.cells c' e fr) :: simM t (Mem.del J b) :: R) := by
 obtain ⟨m, a, d, m1, m2, h1, h2, h3, h4, h5⟩ := h.own
 obtain ⟨o', q1, c', rfl, q2, q3⟩ := h4 _ _ hJ
 refine ⟨c', q2, q3, ⟨h.tape, h.os, h.output, h.imm, m, a, d, Mem.sing b (.cells c' e fr), (Mem.del m1 b).un m2, fun k o hk => ?_, fun k o hk => ?_, fun k => ?_, by simp [pt, Mem.sing], Mem.del m1 b, m2, Mem.le_un_left _ _, Mem.le_un_right (fun k => ?_), fun k => ?_, fun k o hk => ?_, h5⟩⟩
 ·unfold Mem.sing at hk
  split at hk
  ·rename_i hkb; subst hkb; cases hk; exact h1 _ _ q1
  ·cases hk
 ·rcases Mem.unS hk with hx | hx
  ·unfold Mem.del at hx
   split at hx
   ·cases hx
   ·exact h1 _ _ hx
  ·exact h2 _ _ hx
 ·by_cases hk : k = b
  ·right
   subst hk
   have hm2 : m2 k = none := by
    rcases h3 k with h | h
    ·rw [q1] at h; cases h
    ·exact h
   exact Mem.unN (by simp [Mem.del]) hm2
  ·exact .inl (by simp [Mem.sing, hk])
 ·unfold Mem.del
  split
  ·exact .inl rfl
  ·exact h3 k
 ·unfold Mem.del
  split
  ·exact .inl rfl
  ·exact h3 k
 ·unfold Mem.del at hk ⊢
  split at hk
  ·cases hk
  ·rename_i hkb
   rw [if_neg hkb]
   exact h4 _ _ hk
theorem Sat.simIn {E : Ev} {w : World} {I J : Mem} {R : List HP} {t : Nat → Nat → Prop} {b e : Nat} {c c' : Array Value} {fr : Nat × Nat} (hJ : J b = some (.cells c e fr)) (hs : c'.size = c.size) (ht : ∀ j, t e j → c'[j]? = c[j]?) (h : Sat E w I (pt b (.cells c' e fr) :: simM t (Mem.del J b) :: R)) : Sat E w I (simM t J :: R) := by
 refine h.imp fun m ⟨m1, m2, h1, h2, h3, h4, m3, m4, k1, k2, k3, k4, k5⟩ => ?_
 refine ⟨m1.un m3, m4, fun k o hk => ?_, fun k o hk => h2 _ _ (k2 _ _ hk), fun k => ?_, fun k o hk => ?_, k5⟩
 ·rcases Mem.unS hk with hx | hx
  ·exact h1 _ _ hx
  ·exact h2 _ _ (k1 _ _ hx)
 ·cases hx : m4 k with
  | none => exact .inr rfl
  | some o =>
   left
   have e1 : m1 k = none := by
    rcases h3 k with h | h
    ·exact h
    ·rw [k2 _ _ hx] at h; cases h
   have e2 : m3 k = none := by
    rcases k3 k with h | h
    ·exact h
    ·rw [hx] at h; cases h
   exact Mem.unN e1 e2
 ·by_cases hkb : k = b
  ·subst hkb
   rw [hJ] at hk
   cases hk
   exact ⟨_, Mem.unL h4, c', rfl, hs, ht⟩
  ·have : Mem.del J b k = some o := by unfold Mem.del; rw [if_neg hkb]; exact hk
   obtain ⟨o', q1, q2⟩ := k4 _ _ this
   refine ⟨o', ?_, q2⟩
   have e1 : m1 k = none := by
    rcases h3 k with h | h
    ·exact h
    ·rw [k1 _ _ q1] at h; cases h
   exact (Mem.unR e1).trans q1
theorem Rd.sim {I I0 I' : Mem} {L : List HP} {t : Nat → Nat → Prop} {e b o : Nat} {cs : List Value} {v : Value} {n cap o2 : Nat} (k j : Nat) (hL : L[k]? = some (simM t (Mem.minus I' I0))) (hN : NewV I0 I' e (.slice (some ⟨b, o2, none⟩) n cap)) (hA : At I' b o cs) (hj : cs[j]? = some v) (hK : t e (o + j)) : Rd I L b (o + j) [v] := by
 intro E w hw q u hq
 obtain ⟨h1, c, h2⟩ := hN _ _ _ rfl
 obtain ⟨m, hm, hs⟩ := (hw.perm (pull k L _ hL)).head
 obtain ⟨o', q1, c', rfl, q2, q3⟩ := hs b _ ((Mem.minus_at h1).trans h2)
 have hc := q3 _ hK
 obtain ⟨c3, ty3, fr3, h3, h4⟩ := hA
 rw [h2] at h3
 cases h3
 cases q with
 | succ q => simp at hq
 | zero =>
  simp at hq
  subst hq
  have := h4 j v hj
  rw [← hc] at this
  simp only [World.cell?, hm _ _ q1, Option.isSome_none, Bool.false_eq_true, if_false, Nat.add_zero]
  simpa using this
theorem splice_at {cs : List Value} {off i : Nat} {v : Value} (hne : off ≠ i) (h : off < cs.length) : (splice cs off [v])[i]? = cs[i]? := by
 have : splice cs off [v] = cs.set off v := by
  unfold splice
  rw [List.set_eq_take_append_cons_drop, if_pos h, List.append_assoc]
  rfl
 rw [this, List.getElem?_set, if_neg hne]
section
variable {Γ : Cx} {ops : Array Oper} {rest : List Oper} {ρ : Nat → Value} {I : Mem} {L : List HP} {Q : Post} {ty : TypeId} {ps : String} {af : Array Edge}
theorem WL.storeSim {I0 I' : Mem} {t : Nat → Nat → Prop} {t2 b o e n cap o2 j : Nat} {x y : Operand} {v : Value} {cs : List Value} (k : Nat) [hk : TyK Γ.P t2 false 1] (hx : ev ρ x = .pointer (some ⟨b, o + j, none⟩)) (hL : L[k]? = some (simM t (Mem.minus I' I0))) (hN : NewV I0 I' e (.slice (some ⟨b, o2, none⟩) n cap)) (hA : At I' b o cs) (hj : j < cs.length) (he : ¬ t e (o + j))
  (hy : ev ρ y = v) (hv : v.cells.toList = [v]) (h1 : v.oneCell' = true) (next : WL Γ ops rest ρ I L Q) : WL Γ ops ({ dst := none, op := .store t2 x y, type := ty, pos := ps, after := af, guard := none } :: rest) ρ I L Q := by
 intro a w ha hw
 obtain ⟨hn, c, hc⟩ := hN _ _ _ rfl
 have hJ : Mem.minus I' I0 b = some (.cells c e (0, 0)) := (Mem.minus_at hn).trans hc
 obtain ⟨c', q1, q2, h⟩ := (hw.perm (pull k L _ hL)).simOut hJ
 have hlt : o + j < c.size := by
  obtain ⟨c3, ty3, fr3, h3, h4⟩ := hA
  rw [hc] at h3
  cases h3
  exact (Array.getElem?_eq_some_iff.1 (h4 j _ (List.getElem?_eq_getElem hj))).1
 have hbx : pt b (.cells c' e (0, 0)) = Sl.box b e c'.toList := by unfold Sl.box; rw [Array.toArray_toList]
 rw [hbx] at h
 refine WL.store (cs := c'.toList) 0 hx rfl ?_ ?_ a w ha h
 ·rw [hy, hv]
  have : Nat.ble (o + j + 1) c'.toList.length = true := Nat.ble_eq_true_of_le (by rw [Array.length_toList]; omega)
  simp only [List.length_singleton, storeOk, h1, this, List.all_cons, List.all_nil, Bool.and_true, Bool.and_self]
  rfl
 ·rw [hy, hv]
  intro a w ha hw
  refine next a w ha ?_
  have hsp : (splice c'.toList (o + j) [v]).length = c.size := by
   rw [splice_length (by rw [Array.length_toList]; simp; omega), Array.length_toList, q1]
  have h5 : Sat Γ.E w I (pt b (.cells (splice c'.toList (o + j) [v]).toArray e (0, 0)) :: simM t (Mem.del (Mem.minus I' I0) b) :: L.eraseIdx k) := hw
  refine (h5.simIn hJ (by simp [hsp]) (fun i h => ?_)).perm (pull k L _ hL).symm
  rw [← q2 i h]
  have hne : o + j ≠ i := fun hi => he (by rw [hi]; exact h)
  have hso := splice_at (cs := c'.toList) (v := v) (i := i) hne (by rw [Array.length_toList]; omega)
  simpa using hso
end
end Go.Sl

namespace Go.Proofs.YtggcpoleklcmkaaGreatDoor
open Go.Sl
instance : TyK Tryz.prog 3 false 1 := ⟨by kernel_rfl⟩
instance : ZeroK Tryz.prog 3 [.int .i64 (0)] := ⟨by kernel_rfl⟩
instance : BytK Tryz.prog 3 8 := ⟨by kernel_rfl⟩
instance : IntK Tryz.prog 3 .i64 := ⟨by kernel_rfl⟩
instance : TyK Tryz.prog 4 false 1 := ⟨by kernel_rfl⟩
instance : BoolK Tryz.prog 4 := ⟨by kernel_rfl⟩
instance : TyK Tryz.prog 5 false 1 := ⟨by kernel_rfl⟩
instance : IntK Tryz.prog 5 .u8 := ⟨by kernel_rfl⟩
instance : TyK Tryz.prog 23 true 6 := ⟨by kernel_rfl⟩
instance : ZeroK Tryz.prog 23 [.int .i64 (0), .int .i64 (0), .int .i64 (0), .int .i64 (0), .int .i64 (0), .int .i64 (0)] := ⟨by kernel_rfl⟩
instance : FldK Tryz.prog 23 0 0 false 1 := ⟨by kernel_rfl⟩
instance : FldK Tryz.prog 23 1 1 false 1 := ⟨by kernel_rfl⟩
instance : FldK Tryz.prog 23 2 2 false 1 := ⟨by kernel_rfl⟩
instance : FldK Tryz.prog 23 3 3 false 1 := ⟨by kernel_rfl⟩
instance : FldK Tryz.prog 23 4 4 false 1 := ⟨by kernel_rfl⟩
instance : FldK Tryz.prog 23 5 5 false 1 := ⟨by kernel_rfl⟩
instance : PlK Tryz.prog 23 [(0, 1), (1, 1), (2, 1), (3, 1), (4, 1), (5, 1)] := ⟨by kernel_rfl⟩
instance : EqK Tryz.prog 23 [.i .i64, .i .i64, .i .i64, .i .i64, .i .i64, .i .i64] := ⟨by kernel_rfl, by kernel_rfl, by kernel_rfl⟩
instance : TyK Tryz.prog 25 true 4 := ⟨by kernel_rfl⟩
instance : ZeroK Tryz.prog 25 [.int .u8 (0), .int .u8 (0), .int .u8 (0), .int .u8 (0)] := ⟨by kernel_rfl⟩
instance : ArK Tryz.prog 25 4 false 1 := ⟨by kernel_rfl⟩
instance : PlK Tryz.prog 25 [(0, 1), (1, 1), (2, 1), (3, 1)] := ⟨by kernel_rfl⟩
instance : EqK Tryz.prog 25 [.i .u8, .i .u8, .i .u8, .i .u8] := ⟨by kernel_rfl, by kernel_rfl, by kernel_rfl⟩
instance : TyK Tryz.prog 27 true 2 := ⟨by kernel_rfl⟩
instance : ZeroK Tryz.prog 27 [.int .i64 (0), .int .i64 (0)] := ⟨by kernel_rfl⟩
instance : BytK Tryz.prog 27 16 := ⟨by kernel_rfl⟩
instance : FldK Tryz.prog 27 0 0 false 1 := ⟨by kernel_rfl⟩
instance : FldK Tryz.prog 27 1 1 false 1 := ⟨by kernel_rfl⟩
instance : PlK Tryz.prog 27 [(0, 1), (1, 1)] := ⟨by kernel_rfl⟩
instance : EqK Tryz.prog 27 [.i .i64, .i .i64] := ⟨by kernel_rfl, by kernel_rfl, by kernel_rfl⟩
instance : TyK Tryz.prog 28 false 1 := ⟨by kernel_rfl⟩
instance : SlK Tryz.prog 28 203 5 := ⟨by kernel_rfl⟩
instance : TyK Tryz.prog 30 true 10 := ⟨by kernel_rfl⟩
instance : ZeroK Tryz.prog 30 [.int .i64 (0), .int .u8 (0), .int .u8 (0), .int .u8 (0), .int .u8 (0), .int .i64 (0), .int .i64 (0), .int .i64 (0), .int .i64 (0), .slice none 0 0] := ⟨by kernel_rfl⟩
instance : FldK Tryz.prog 30 0 0 false 1 := ⟨by kernel_rfl⟩
instance : FldK Tryz.prog 30 1 1 true 4 := ⟨by kernel_rfl⟩
instance : FldK Tryz.prog 30 2 5 true 2 := ⟨by kernel_rfl⟩
instance : FldK Tryz.prog 30 3 7 true 2 := ⟨by kernel_rfl⟩
instance : FldK Tryz.prog 30 4 9 false 1 := ⟨by kernel_rfl⟩
instance : TyK Tryz.prog 31 false 1 := ⟨by kernel_rfl⟩
instance : SlK Tryz.prog 31 3 1 := ⟨by kernel_rfl⟩
instance : TyK Tryz.prog 33 true 2 := ⟨by kernel_rfl⟩
instance : FldK Tryz.prog 33 0 0 false 1 := ⟨by kernel_rfl⟩
instance : FldK Tryz.prog 33 1 1 false 1 := ⟨by kernel_rfl⟩
instance : TyK Tryz.prog 35 true 27 := ⟨by kernel_rfl⟩
instance : ZeroK Tryz.prog 35 (.int .i64 (0) :: .int .u8 (0) :: .int .u8 (0) :: .int .u8 (0) :: .int .u8 (0) :: .int .i64 (0) :: .int .i64 (0) :: .int .i64 (0) :: .int .i64 (0) :: .slice none 0 0 :: .int .i64 (0) :: .int .u8 (0) :: .int .u8 (0) :: .int .u8 (0) :: .int .u8 (0) :: .int .i64 (0) :: .int .i64 (0) :: .int .i64 (0) :: .int .i64 (0) :: .slice none 0 0 :: .int .i64 (0) :: .int .i64 (0) :: .int .i64 (0) :: .slice none 0 0 :: .int .i64 (0) :: .int .i64 (0) :: .int .i64 (0) :: []) := ⟨by kernel_rfl⟩
instance : FldK Tryz.prog 35 0 0 true 10 := ⟨by kernel_rfl⟩
instance : FldK Tryz.prog 35 1 10 true 10 := ⟨by kernel_rfl⟩
instance : FldK Tryz.prog 35 2 20 false 1 := ⟨by kernel_rfl⟩
instance : FldK Tryz.prog 35 3 21 false 1 := ⟨by kernel_rfl⟩
instance : FldK Tryz.prog 35 4 22 false 1 := ⟨by kernel_rfl⟩
instance : FldK Tryz.prog 35 5 23 true 2 := ⟨by kernel_rfl⟩
instance : FldK Tryz.prog 35 6 25 false 1 := ⟨by kernel_rfl⟩
instance : FldK Tryz.prog 35 7 26 false 1 := ⟨by kernel_rfl⟩
instance : PlK Tryz.prog 35 [(0, 10), (10, 10), (20, 1), (21, 1), (22, 1), (23, 2), (25, 1), (26, 1)] := ⟨by kernel_rfl⟩
instance : TyK Tryz.prog 36 false 1 := ⟨by kernel_rfl⟩
instance : ZeroK Tryz.prog 36 [.slice none 0 0] := ⟨by kernel_rfl⟩
instance : SlK Tryz.prog 36 57 7 := ⟨by kernel_rfl⟩
instance : TyK Tryz.prog 38 true 34 := ⟨by kernel_rfl⟩
instance : ZeroK Tryz.prog 38 (.int .i64 (0) :: .int .i64 (0) :: .int .i64 (0) :: .int .i64 (0) :: .int .i64 (0) :: .int .i64 (0) :: .int .i64 (0) :: .int .u8 (0) :: .int .u8 (0) :: .int .u8 (0) :: .int .u8 (0) :: .int .i64 (0) :: .int .i64 (0) :: .int .i64 (0) :: .int .i64 (0) :: .slice none 0 0 :: .int .i64 (0) :: .int .u8 (0) :: .int .u8 (0) :: .int .u8 (0) :: .int .u8 (0) :: .int .i64 (0) :: .int .i64 (0) :: .int .i64 (0) :: .int .i64 (0) :: .slice none 0 0 :: .int .i64 (0) :: .int .i64 (0) :: .int .i64 (0) :: .slice none 0 0 :: .int .i64 (0) :: .int .i64 (0) :: .int .i64 (0) :: .slice none 0 0 :: []) := ⟨by kernel_rfl⟩
instance : FldK Tryz.prog 38 0 0 true 6 := ⟨by kernel_rfl⟩
instance : FldK Tryz.prog 38 1 6 true 27 := ⟨by kernel_rfl⟩
instance : FldK Tryz.prog 38 2 33 false 1 := ⟨by kernel_rfl⟩
instance : PlK Tryz.prog 38 [(0, 6), (6, 27), (33, 1)] := ⟨by kernel_rfl⟩
instance : TyK Tryz.prog 41 false 1 := ⟨by kernel_rfl⟩
instance : ZeroK Tryz.prog 41 [.int .i64 (0)] := ⟨by kernel_rfl⟩
instance : SlK Tryz.prog 47 59 51 := ⟨by kernel_rfl⟩
instance : TyK Tryz.prog 54 false 1 := ⟨by kernel_rfl⟩
instance : SlK Tryz.prog 54 69 37 := ⟨by kernel_rfl⟩
instance : TyK Tryz.prog 55 true 6 := ⟨by kernel_rfl⟩
instance : ArK Tryz.prog 55 3 true 2 := ⟨by kernel_rfl⟩
instance : TyK Tryz.prog 57 true 7 := ⟨by kernel_rfl⟩
instance : ZeroK Tryz.prog 57 [.int .i64 (0), .int .i64 (0), .int .i64 (0), .int .i64 (0), .int .i64 (0), .int .i64 (0), .int .i64 (0)] := ⟨by kernel_rfl⟩
instance : BytK Tryz.prog 57 56 := ⟨by kernel_rfl⟩
instance : FldK Tryz.prog 57 0 0 false 1 := ⟨by kernel_rfl⟩
instance : FldK Tryz.prog 57 1 1 true 6 := ⟨by kernel_rfl⟩
instance : EqK Tryz.prog 57 [.i .i64, .i .i64, .i .i64, .i .i64, .i .i64, .i .i64, .i .i64] := ⟨by kernel_rfl, by kernel_rfl, by kernel_rfl⟩
instance : TyK Tryz.prog 59 true 51 := ⟨by kernel_rfl⟩
instance : ZeroK Tryz.prog 59 (.int .i64 (0) :: .int .i64 (0) :: .int .i64 (0) :: .int .i64 (0) :: .int .i64 (0) :: .int .i64 (0) :: .int .i64 (0) :: .slice none 0 0 :: .int .i64 (0) :: .int .i64 (0) :: .int .i64 (0) :: .int .i64 (0) :: .int .i64 (0) :: .int .i64 (0) :: .int .i64 (0) :: .int .u8 (0) :: .int .u8 (0) :: .int .u8 (0) :: .int .u8 (0) :: .int .i64 (0) :: .int .i64 (0) :: .int .i64 (0) :: .int .i64 (0) :: .slice none 0 0 :: .int .i64 (0) :: .int .u8 (0) :: .int .u8 (0) :: .int .u8 (0) :: .int .u8 (0) :: .int .i64 (0) :: .int .i64 (0) :: .int .i64 (0) :: .int .i64 (0) :: .slice none 0 0 :: .int .i64 (0) :: .int .i64 (0) :: .int .i64 (0) :: .slice none 0 0 :: .int .i64 (0) :: .int .i64 (0) :: .int .i64 (0) :: .slice none 0 0 :: .int .i64 (0) :: .int .i64 (0) :: .int .i64 (0) :: .int .i64 (0) :: .int .i64 (0) :: .int .i64 (0) :: .int .i64 (0) :: .int .i64 (0) :: .int .i64 (0) :: []) := ⟨by kernel_rfl⟩
instance : FldK Tryz.prog 59 0 0 false 1 := ⟨by kernel_rfl⟩
instance : FldK Tryz.prog 59 1 1 false 1 := ⟨by kernel_rfl⟩
instance : FldK Tryz.prog 59 2 2 false 1 := ⟨by kernel_rfl⟩
instance : FldK Tryz.prog 59 3 3 false 1 := ⟨by kernel_rfl⟩
instance : FldK Tryz.prog 59 4 4 false 1 := ⟨by kernel_rfl⟩
instance : FldK Tryz.prog 59 5 5 false 1 := ⟨by kernel_rfl⟩
instance : FldK Tryz.prog 59 6 6 false 1 := ⟨by kernel_rfl⟩
instance : FldK Tryz.prog 59 7 7 false 1 := ⟨by kernel_rfl⟩
instance : FldK Tryz.prog 59 8 8 true 34 := ⟨by kernel_rfl⟩
instance : FldK Tryz.prog 59 9 42 true 7 := ⟨by kernel_rfl⟩
instance : FldK Tryz.prog 59 10 49 true 2 := ⟨by kernel_rfl⟩
instance : PlK Tryz.prog 59 [(0, 1), (1, 1), (2, 1), (3, 1), (4, 1), (5, 1), (6, 1), (7, 1), (8, 34), (42, 7), (49, 2)] := ⟨by kernel_rfl⟩
instance : TyK Tryz.prog 65 false 1 := ⟨by kernel_rfl⟩
instance : TyK Tryz.prog 69 true 37 := ⟨by kernel_rfl⟩
instance : ZeroK Tryz.prog 69 (.int .i64 (0) :: .bool false :: .int .i64 (0) :: .int .i64 (0) :: .int .i64 (0) :: .int .i64 (0) :: .int .i64 (0) :: .int .i64 (0) :: .int .i64 (0) :: .int .i64 (0) :: .int .u8 (0) :: .int .u8 (0) :: .int .u8 (0) :: .int .u8 (0) :: .int .i64 (0) :: .int .i64 (0) :: .int .i64 (0) :: .int .i64 (0) :: .slice none 0 0 :: .int .i64 (0) :: .int .u8 (0) :: .int .u8 (0) :: .int .u8 (0) :: .int .u8 (0) :: .int .i64 (0) :: .int .i64 (0) :: .int .i64 (0) :: .int .i64 (0) :: .slice none 0 0 :: .int .i64 (0) :: .int .i64 (0) :: .int .i64 (0) :: .slice none 0 0 :: .int .i64 (0) :: .int .i64 (0) :: .int .i64 (0) :: .slice none 0 0 :: []) := ⟨by kernel_rfl⟩
instance : BytK Tryz.prog 69 312 := ⟨by kernel_rfl⟩
instance : FldK Tryz.prog 69 0 0 false 1 := ⟨by kernel_rfl⟩
instance : FldK Tryz.prog 69 1 1 false 1 := ⟨by kernel_rfl⟩
instance : FldK Tryz.prog 69 2 2 false 1 := ⟨by kernel_rfl⟩
instance : FldK Tryz.prog 69 3 3 true 34 := ⟨by kernel_rfl⟩
instance : PlK Tryz.prog 69 [(0, 1), (1, 1), (2, 1), (3, 34)] := ⟨by kernel_rfl⟩
instance : TyK Tryz.prog 70 false 1 := ⟨by kernel_rfl⟩
instance : SlK Tryz.prog 70 72 3 := ⟨by kernel_rfl⟩
instance : TyK Tryz.prog 72 true 3 := ⟨by kernel_rfl⟩
instance : ZeroK Tryz.prog 72 [.int .i64 (0), .bool false, .slice none 0 0] := ⟨by kernel_rfl⟩
instance : BytK Tryz.prog 72 40 := ⟨by kernel_rfl⟩
instance : FldK Tryz.prog 72 0 0 false 1 := ⟨by kernel_rfl⟩
instance : FldK Tryz.prog 72 1 1 false 1 := ⟨by kernel_rfl⟩
instance : FldK Tryz.prog 72 2 2 false 1 := ⟨by kernel_rfl⟩
instance : PlK Tryz.prog 72 [(0, 1), (1, 1), (2, 1)] := ⟨by kernel_rfl⟩
instance : TyK Tryz.prog 78 false 1 := ⟨by kernel_rfl⟩
instance : ZeroK Tryz.prog 115 [.int .i64 (0), .int .i64 (0), .int .i64 (0), .int .i64 (0)] := ⟨by kernel_rfl⟩
instance : ArK Tryz.prog 115 4 false 1 := ⟨by kernel_rfl⟩
instance : PlK Tryz.prog 115 [(0, 1), (1, 1), (2, 1), (3, 1)] := ⟨by kernel_rfl⟩
instance : SlK Tryz.prog 117 30 10 := ⟨by kernel_rfl⟩
instance : TyK Tryz.prog 118 true 3 := ⟨by kernel_rfl⟩
instance : ZeroK Tryz.prog 118 [.int .i64 (0), .int .i64 (0), .int .i64 (0)] := ⟨by kernel_rfl⟩
instance : FldK Tryz.prog 118 0 0 false 1 := ⟨by kernel_rfl⟩
instance : FldK Tryz.prog 118 1 1 false 1 := ⟨by kernel_rfl⟩
instance : FldK Tryz.prog 118 2 2 false 1 := ⟨by kernel_rfl⟩
instance : PlK Tryz.prog 118 [(0, 1), (1, 1), (2, 1)] := ⟨by kernel_rfl⟩
instance : SlK Tryz.prog 119 118 3 := ⟨by kernel_rfl⟩
instance : SlK Tryz.prog 122 27 2 := ⟨by kernel_rfl⟩
instance : ZeroK Tryz.prog 136 [.pointer none, .map none, .int .i64 (0)] := ⟨by kernel_rfl⟩
instance : FldK Tryz.prog 136 0 0 false 1 := ⟨by kernel_rfl⟩
instance : FldK Tryz.prog 136 1 1 false 1 := ⟨by kernel_rfl⟩
instance : FldK Tryz.prog 136 2 2 false 1 := ⟨by kernel_rfl⟩
instance : PlK Tryz.prog 136 [(0, 1), (1, 1), (2, 1)] := ⟨by kernel_rfl⟩
instance : TyK Tryz.prog 142 false 1 := ⟨by kernel_rfl⟩
instance : SlK Tryz.prog 142 191 4 := ⟨by kernel_rfl⟩
instance : TyK Tryz.prog 143 false 1 := ⟨by kernel_rfl⟩
instance : ZeroK Tryz.prog 145 [.slice none 0 0, .slice none 0 0, .map none] := ⟨by kernel_rfl⟩
instance : FldK Tryz.prog 145 0 0 false 1 := ⟨by kernel_rfl⟩
instance : FldK Tryz.prog 145 1 1 false 1 := ⟨by kernel_rfl⟩
instance : FldK Tryz.prog 145 2 2 false 1 := ⟨by kernel_rfl⟩
instance : PlK Tryz.prog 145 [(0, 1), (1, 1), (2, 1)] := ⟨by kernel_rfl⟩
instance : ArK Tryz.prog 163 6 false 1 := ⟨by kernel_rfl⟩
instance : TyK Tryz.prog 191 true 4 := ⟨by kernel_rfl⟩
instance : ZeroK Tryz.prog 191 [.int .i64 (0), .bool false, .int .i64 (0), .slice none 0 0] := ⟨by kernel_rfl⟩
instance : BytK Tryz.prog 191 48 := ⟨by kernel_rfl⟩
instance : FldK Tryz.prog 191 0 0 false 1 := ⟨by kernel_rfl⟩
instance : FldK Tryz.prog 191 1 1 false 1 := ⟨by kernel_rfl⟩
instance : FldK Tryz.prog 191 2 2 false 1 := ⟨by kernel_rfl⟩
instance : FldK Tryz.prog 191 3 3 false 1 := ⟨by kernel_rfl⟩
instance : PlK Tryz.prog 191 [(0, 1), (1, 1), (2, 1), (3, 1)] := ⟨by kernel_rfl⟩
instance : TyK Tryz.prog 203 true 5 := ⟨by kernel_rfl⟩
instance : ZeroK Tryz.prog 203 [.int .i64 (0), .int .u8 (0), .int .u8 (0), .int .u8 (0), .int .u8 (0)] := ⟨by kernel_rfl⟩
instance : BytK Tryz.prog 203 16 := ⟨by kernel_rfl⟩
instance : FldK Tryz.prog 203 0 0 false 1 := ⟨by kernel_rfl⟩
instance : FldK Tryz.prog 203 1 1 true 4 := ⟨by kernel_rfl⟩
instance : EqK Tryz.prog 203 [.i .i64, .i .u8, .i .u8, .i .u8, .i .u8] := ⟨by kernel_rfl, by kernel_rfl, by kernel_rfl⟩
instance : TyK Tryz.prog 224 false 1 := ⟨by kernel_rfl⟩
instance : ZeroK Tryz.prog 224 [.pointer none] := ⟨by kernel_rfl⟩
instance : SlK Tryz.prog 225 224 1 := ⟨by kernel_rfl⟩
instance : TyK Tryz.prog 242 false 1 := ⟨by kernel_rfl⟩
instance : ZeroK Tryz.prog 242 [.map none] := ⟨by kernel_rfl⟩
instance : TyK Tryz.prog 246 false 1 := ⟨by kernel_rfl⟩
instance : SlK Tryz.prog 252 36 1 := ⟨by kernel_rfl⟩
instance : ArK Tryz.prog 256 4 true 2 := ⟨by kernel_rfl⟩
instance : TyK Tryz.prog 258 true 9 := ⟨by kernel_rfl⟩
instance : ZeroK Tryz.prog 258 [.int .i64 (0), .int .i64 (0), .int .i64 (0), .int .i64 (0), .int .i64 (0), .int .i64 (0), .int .i64 (0), .int .i64 (0), .int .i64 (0)] := ⟨by kernel_rfl⟩
instance : FldK Tryz.prog 258 0 0 true 8 := ⟨by kernel_rfl⟩
instance : FldK Tryz.prog 258 1 8 false 1 := ⟨by kernel_rfl⟩
instance : PlK Tryz.prog 258 [(0, 8), (8, 1)] := ⟨by kernel_rfl⟩
instance : FnK Tryz.prog 14 := ⟨_, _, Tryz.func14, by kernel_rfl, rfl⟩
instance : FnK Tryz.prog 15 := ⟨_, _, Tryz.func15, by kernel_rfl, rfl⟩
instance : FnK Tryz.prog 16 := ⟨_, _, Tryz.func16, by kernel_rfl, rfl⟩
instance : FnK Tryz.prog 17 := ⟨_, _, Tryz.func17, by kernel_rfl, rfl⟩
instance : FnK Tryz.prog 18 := ⟨_, _, Tryz.func18, by kernel_rfl, rfl⟩
instance : FnK Tryz.prog 19 := ⟨_, _, Tryz.func19, by kernel_rfl, rfl⟩
instance : FnK Tryz.prog 20 := ⟨_, _, Tryz.func20, by kernel_rfl, rfl⟩
instance : FnK Tryz.prog 21 := ⟨_, _, Tryz.func21, by kernel_rfl, rfl⟩
instance : FnK Tryz.prog 22 := ⟨_, _, Tryz.func22, by kernel_rfl, rfl⟩
instance : FnK Tryz.prog 24 := ⟨_, _, Tryz.func24, by kernel_rfl, rfl⟩
instance : FnK Tryz.prog 28 := ⟨_, _, Tryz.func28, by kernel_rfl, rfl⟩
instance : FnK Tryz.prog 29 := ⟨_, _, Tryz.func29, by kernel_rfl, rfl⟩
instance : FnK Tryz.prog 30 := ⟨_, _, Tryz.func30, by kernel_rfl, rfl⟩
instance : FnK Tryz.prog 32 := ⟨_, _, Tryz.func32, by kernel_rfl, rfl⟩
instance : FnK Tryz.prog 33 := ⟨_, _, Tryz.func33, by kernel_rfl, rfl⟩
instance : FnK Tryz.prog 38 := ⟨_, _, Tryz.func38, by kernel_rfl, rfl⟩
instance : FnK Tryz.prog 53 := ⟨_, _, Tryz.func53, by kernel_rfl, rfl⟩
instance : FnK Tryz.prog 54 := ⟨_, _, Tryz.func54, by kernel_rfl, rfl⟩
instance : FnK Tryz.prog 55 := ⟨_, _, Tryz.func55, by kernel_rfl, rfl⟩
instance : FnK Tryz.prog 56 := ⟨_, _, Tryz.func56, by kernel_rfl, rfl⟩
instance : FnK Tryz.prog 57 := ⟨_, _, Tryz.func57, by kernel_rfl, rfl⟩
instance : FnK Tryz.prog 58 := ⟨_, _, Tryz.func58, by kernel_rfl, rfl⟩
instance : FnK Tryz.prog 59 := ⟨_, _, Tryz.func59, by kernel_rfl, rfl⟩
instance : FnK Tryz.prog 60 := ⟨_, _, Tryz.func60, by kernel_rfl, rfl⟩
instance : FnK Tryz.prog 61 := ⟨_, _, Tryz.func61, by kernel_rfl, rfl⟩
instance : FnK Tryz.prog 62 := ⟨_, _, Tryz.func62, by kernel_rfl, rfl⟩
instance : FnK Tryz.prog 63 := ⟨_, _, Tryz.func63, by kernel_rfl, rfl⟩
instance : FnK Tryz.prog 64 := ⟨_, _, Tryz.func64, by kernel_rfl, rfl⟩
instance : FnK Tryz.prog 66 := ⟨_, _, Tryz.func66, by kernel_rfl, rfl⟩
instance : FnK Tryz.prog 67 := ⟨_, _, Tryz.func67, by kernel_rfl, rfl⟩
instance : FnK Tryz.prog 68 := ⟨_, _, Tryz.func68, by kernel_rfl, rfl⟩
instance : FnK Tryz.prog 69 := ⟨_, _, Tryz.func69, by kernel_rfl, rfl⟩
instance : FnK Tryz.prog 70 := ⟨_, _, Tryz.func70, by kernel_rfl, rfl⟩
instance : FnK Tryz.prog 71 := ⟨_, _, Tryz.func71, by kernel_rfl, rfl⟩
instance : FnK Tryz.prog 77 := ⟨_, _, Tryz.func77, by kernel_rfl, rfl⟩
instance : FnK Tryz.prog 78 := ⟨_, _, Tryz.func78, by kernel_rfl, rfl⟩
instance : FnK Tryz.prog 79 := ⟨_, _, Tryz.func79, by kernel_rfl, rfl⟩
instance : FnK Tryz.prog 80 := ⟨_, _, Tryz.func80, by kernel_rfl, rfl⟩
instance : FnK Tryz.prog 81 := ⟨_, _, Tryz.func81, by kernel_rfl, rfl⟩
instance : FnK Tryz.prog 82 := ⟨_, _, Tryz.func82, by kernel_rfl, rfl⟩
instance : FnK Tryz.prog 83 := ⟨_, _, Tryz.func83, by kernel_rfl, rfl⟩
instance : FnK Tryz.prog 93 := ⟨_, _, Tryz.func93, by kernel_rfl, rfl⟩
instance : FnK Tryz.prog 94 := ⟨_, _, Tryz.func94, by kernel_rfl, rfl⟩
instance : FnK Tryz.prog 95 := ⟨_, _, Tryz.func95, by kernel_rfl, rfl⟩
instance : FnK Tryz.prog 96 := ⟨_, _, Tryz.func96, by kernel_rfl, rfl⟩
instance : FnK Tryz.prog 97 := ⟨_, _, Tryz.func97, by kernel_rfl, rfl⟩
instance : FnK Tryz.prog 98 := ⟨_, _, Tryz.func98, by kernel_rfl, rfl⟩
instance : FnK Tryz.prog 99 := ⟨_, _, Tryz.func99, by kernel_rfl, rfl⟩
instance : FnK Tryz.prog 100 := ⟨_, _, Tryz.func100, by kernel_rfl, rfl⟩
instance : FnK Tryz.prog 101 := ⟨_, _, Tryz.func101, by kernel_rfl, rfl⟩
instance : FnK Tryz.prog 108 := ⟨_, _, Tryz.func108, by kernel_rfl, rfl⟩
instance : FnK Tryz.prog 109 := ⟨_, _, Tryz.func109, by kernel_rfl, rfl⟩
instance : FnK Tryz.prog 110 := ⟨_, _, Tryz.func110, by kernel_rfl, rfl⟩
instance : FnK Tryz.prog 111 := ⟨_, _, Tryz.func111, by kernel_rfl, rfl⟩
instance : FnK Tryz.prog 112 := ⟨_, _, Tryz.func112, by kernel_rfl, rfl⟩
instance : FnK Tryz.prog 113 := ⟨_, _, Tryz.func113, by kernel_rfl, rfl⟩
instance : FnK Tryz.prog 114 := ⟨_, _, Tryz.func114, by kernel_rfl, rfl⟩
instance : FnK Tryz.prog 115 := ⟨_, _, Tryz.func115, by kernel_rfl, rfl⟩
instance : FnK Tryz.prog 116 := ⟨_, _, Tryz.func116, by kernel_rfl, rfl⟩
instance : FnK Tryz.prog 117 := ⟨_, _, Tryz.func117, by kernel_rfl, rfl⟩
instance : FnK Tryz.prog 119 := ⟨_, _, Tryz.func119, by kernel_rfl, rfl⟩
instance : FnK Tryz.prog 126 := ⟨_, _, Tryz.func126, by kernel_rfl, rfl⟩
instance : FnK Tryz.prog 136 := ⟨_, _, Tryz.func136, by kernel_rfl, rfl⟩
instance : FnK Tryz.prog 137 := ⟨_, _, Tryz.func137, by kernel_rfl, rfl⟩
instance : FnK Tryz.prog 138 := ⟨_, _, Tryz.func138, by kernel_rfl, rfl⟩
instance : FnK Tryz.prog 139 := ⟨_, _, Tryz.func139, by kernel_rfl, rfl⟩
instance : FnK Tryz.prog 140 := ⟨_, _, Tryz.func140, by kernel_rfl, rfl⟩
instance : FnK Tryz.prog 141 := ⟨_, _, Tryz.func141, by kernel_rfl, rfl⟩
instance : FnK Tryz.prog 142 := ⟨_, _, Tryz.func142, by kernel_rfl, rfl⟩
instance : FnK Tryz.prog 143 := ⟨_, _, Tryz.func143, by kernel_rfl, rfl⟩
instance : FnK Tryz.prog 144 := ⟨_, _, Tryz.func144, by kernel_rfl, rfl⟩
instance : FnK Tryz.prog 145 := ⟨_, _, Tryz.func145, by kernel_rfl, rfl⟩
instance : FnK Tryz.prog 146 := ⟨_, _, Tryz.func146, by kernel_rfl, rfl⟩
instance : FnK Tryz.prog 147 := ⟨_, _, Tryz.func147, by kernel_rfl, rfl⟩
instance : FnK Tryz.prog 148 := ⟨_, _, Tryz.func148, by kernel_rfl, rfl⟩
instance : FnK Tryz.prog 149 := ⟨_, _, Tryz.func149, by kernel_rfl, rfl⟩
instance : FnK Tryz.prog 150 := ⟨_, _, Tryz.func150, by kernel_rfl, rfl⟩
instance : FnK Tryz.prog 151 := ⟨_, _, Tryz.func151, by kernel_rfl, rfl⟩
instance : FnK Tryz.prog 152 := ⟨_, _, Tryz.func152, by kernel_rfl, rfl⟩
instance : FnK Tryz.prog 153 := ⟨_, _, Tryz.func153, by kernel_rfl, rfl⟩
instance : FnK Tryz.prog 158 := ⟨_, _, Tryz.func158, by kernel_rfl, rfl⟩
instance : FnK Tryz.prog 159 := ⟨_, _, Tryz.func159, by kernel_rfl, rfl⟩
instance : FnK Tryz.prog 160 := ⟨_, _, Tryz.func160, by kernel_rfl, rfl⟩
instance : FnK Tryz.prog 161 := ⟨_, _, Tryz.func161, by kernel_rfl, rfl⟩
instance : FnK Tryz.prog 162 := ⟨_, _, Tryz.func162, by kernel_rfl, rfl⟩
instance : FnK Tryz.prog 163 := ⟨_, _, Tryz.func163, by kernel_rfl, rfl⟩
instance : FnK Tryz.prog 164 := ⟨_, _, Tryz.func164, by kernel_rfl, rfl⟩
instance : FnK Tryz.prog 167 := ⟨_, _, Tryz.func167, by kernel_rfl, rfl⟩
instance : FnK Tryz.prog 168 := ⟨_, _, Tryz.func168, by kernel_rfl, rfl⟩
instance : FnK Tryz.prog 170 := ⟨_, _, Tryz.func170, by kernel_rfl, rfl⟩
instance : FnK Tryz.prog 171 := ⟨_, _, Tryz.func171, by kernel_rfl, rfl⟩
instance : FnK Tryz.prog 172 := ⟨_, _, Tryz.func172, by kernel_rfl, rfl⟩
instance : FnK Tryz.prog 173 := ⟨_, _, Tryz.func173, by kernel_rfl, rfl⟩
instance : FnK Tryz.prog 174 := ⟨_, _, Tryz.func174, by kernel_rfl, rfl⟩
instance : FnK Tryz.prog 175 := ⟨_, _, Tryz.func175, by kernel_rfl, rfl⟩
instance : FnK Tryz.prog 176 := ⟨_, _, Tryz.func176, by kernel_rfl, rfl⟩
instance : FnK Tryz.prog 178 := ⟨_, _, Tryz.func178, by kernel_rfl, rfl⟩
end Go.Proofs.YtggcpoleklcmkaaGreatDoor

namespace Go.Tr
open Go.Sl Go.Ls
inductive Nd where
 | mk (id : Int) (grp : Bool) (kids : List Nd)
namespace Nd
def id : Nd → Int | .mk i _ _ => i
def grp : Nd → Bool | .mk _ g _ => g
def kids : Nd → List Nd | .mk _ _ ks => ks
mutual
def size : Nd → Nat | .mk _ _ ks => 1 + sizes ks
def sizes : List Nd → Nat | [] => 0 | k :: ks => k.size + sizes ks
end
mutual
def height : Nd → Nat | .mk _ _ ks => heights ks + 1
def heights : List Nd → Nat | [] => 0 | k :: ks => max k.height (heights ks)
end
mutual
def order : Nd → List Int | .mk i _ ks => i :: orders ks
def orders : List Nd → List Int | [] => [] | k :: ks => k.order ++ orders ks
end
mutual
def find (i : Int) : Nd → Option Nd | .mk j g ks => if j = i then some (.mk j g ks) else finds i ks
def finds (i : Int) : List Nd → Option Nd | [] => none | k :: ks => (find i k).or (finds i ks)
end
mutual
def depth (i : Int) : Nd → Int | .mk j g ks => if j = i then 0 else depths i ks
def depths (i : Int) : List Nd → Int | [] => -1 | k :: ks => if 0 ≤ depth i k then depth i k + 1 else depths i ks
end
mutual
def whr (i : Int) : Nd → Option (Int × Int) | .mk j _ ks => whrs i j 0 ks
def whrs (i j : Int) (n : Nat) : List Nd → Option (Int × Int) | [] => none | k :: ks => if k.id = i then some (j, (n : Int)) else (whr i k).or (whrs i j (n + 1) ks)
end
mutual
def with_ (i : Int) (l : List Nd) : Nd → Nd | .mk j g ks => .mk j g (if j = i then l else withs i l ks)
def withs (i : Int) (l : List Nd) : List Nd → List Nd | [] => [] | k :: ks => with_ i l k :: withs i l ks
end
theorem sizes_app : ∀ (a b : List Nd), sizes (a ++ b) = sizes a + sizes b
 | [], b => by simp [sizes]
 | x :: a, b => by simp only [List.cons_append, sizes, sizes_app a b]; omega
theorem heights_app : ∀ (a b : List Nd), heights (a ++ b) = max (heights a) (heights b)
 | [], b => by simp [heights]
 | x :: a, b => by simp only [List.cons_append, heights, heights_app a b]; omega
theorem orders_app : ∀ (a b : List Nd), orders (a ++ b) = orders a ++ orders b
 | [], b => by simp [orders]
 | x :: a, b => by simp only [List.cons_append, orders, orders_app a b, List.append_assoc]
theorem withs_len (i : Int) (l : List Nd) : ∀ (a : List Nd), (withs i l a).length = a.length
 | [] => rfl
 | x :: a => by simp only [withs, List.length_cons, withs_len i l a]
theorem size_pos (n : Nd) : 0 < n.size := by cases n; simp only [size]; omega
theorem size_le_sizes : ∀ {l : List Nd} {k : Nd}, k ∈ l → k.size ≤ sizes l
 | x :: l, k, h => by
  simp only [sizes]
  rcases List.mem_cons.1 h with rfl | h
  ·omega
  ·have := size_le_sizes h; omega
 | [], _, h => by cases h
theorem sizes_take : ∀ (l : List Nd) (k : Nat), sizes (l.take k) ≤ sizes l
 | [], k => by simp [sizes]
 | x :: l, 0 => by simp [sizes]
 | x :: l, k + 1 => by simp only [List.take_succ_cons, sizes]; have := sizes_take l k; omega
theorem len_le_sizes : ∀ (l : List Nd), l.length ≤ sizes l
 | [] => by simp
 | x :: l => by simp only [List.length_cons, sizes]; have := len_le_sizes l; have := size_pos x; omega
theorem depth_le (i : Int) : (∀ n : Nd, depth i n < n.size ∧ -1 ≤ depth i n) := by
 intro n
 refine Nd.rec (motive_1 := fun n => depth i n < n.size ∧ -1 ≤ depth i n) (motive_2 := fun l => depths i l ≤ sizes l ∧ -1 ≤ depths i l) ?_ ?_ ?_ n
 ·intro j g ks ih
  simp only [depth, size]
  split <;> omega
 ·simp [depths, sizes]
 ·intro k ks h1 h2
  simp only [depths, sizes]
  have := size_pos k
  split <;> omega
theorem height_le : ∀ n : Nd, n.height ≤ n.size := by
 intro n
 refine Nd.rec (motive_1 := fun n => n.height ≤ n.size) (motive_2 := fun l => heights l ≤ sizes l) ?_ ?_ ?_ n
 ·intro j g ks ih
  simp only [height, size]; omega
 ·simp [heights]
 ·intro k ks h1 h2
  simp only [heights, sizes]; omega
theorem order_len : ∀ n : Nd, n.order.length = n.size := by
 intro n
 refine Nd.rec (motive_1 := fun n => n.order.length = n.size) (motive_2 := fun l => (orders l).length = sizes l) ?_ ?_ ?_ n
 ·intro j g ks ih
  simp only [order, size, List.length_cons, ih]; omega
 ·rfl
 ·intro k ks h1 h2
  simp only [orders, sizes, List.length_append, h1, h2]
/-! cells -/
mutual
def rep (I : Mem) : Nd → List Value → Prop
 | .mk i g ks, cs => I64 i ∧ ∃ kv css, cs = [vi i, .bool g, kv] ∧ SlAt I kv ks.length css.flatten ∧ reps I ks css
def reps (I : Mem) : List Nd → List (List Value) → Prop
 | [], [] => True
 | k :: ks, c :: css => rep I k c ∧ reps I ks css
 | _, _ => False
end
theorem reps_all {I : Mem} : ∀ {l : List Nd} {css : List (List Value)}, reps I l css ↔ All2 (rep I) l css
 | [], [] => by simp [reps, All2]
 | k :: ks, c :: css => by simp only [reps, All2, reps_all]
 | [], _ :: _ => by simp [reps, All2]
 | _ :: _, [] => by simp [reps, All2]
abbrev Rp : Rep Nd := fun I n cs => rep I n cs
theorem rep_mono {I I' : Mem} (hI : I.le I') : ∀ (n : Nd) (cs : List Value), rep I n cs → rep I' n cs := by
 intro n
 refine Nd.rec (motive_1 := fun n => ∀ cs, rep I n cs → rep I' n cs) (motive_2 := fun l => ∀ css, reps I l css → reps I' l css) ?_ ?_ ?_ n
 ·rintro i g ks ih cs ⟨h1, kv, css, h2, h3, h4⟩
  exact ⟨h1, kv, css, h2, h3.mono hI, ih _ h4⟩
 ·intro css h; cases css with
  | nil => trivial
  | cons _ _ => exact h.elim
 ·intro k ks h1 h2 css h; cases css with
  | nil => exact h.elim
  | cons c css => exact ⟨h1 _ h.1, h2 _ h.2⟩
instance : RepMono Rp := ⟨fun h hI => rep_mono hI _ _ h⟩
instance : RepLen Rp 3 := ⟨fun {I x cs} h => by cases x; obtain ⟨_, kv, css, rfl, _⟩ := h; rfl⟩
theorem rep_iff {I : Mem} {n : Nd} {cs : List Value} : rep I n cs ↔ I64 n.id ∧ ∃ kv, cs = [vi n.id, .bool n.grp, kv] ∧ LsAt Rp I n.kids kv := by
 cases n with | mk i g ks =>
 constructor
 ·rintro ⟨h1, kv, css, h2, h3, h4⟩
  exact ⟨h1, kv, h2, css, h3, reps_all.1 h4⟩
 ·rintro ⟨h1, kv, h2, css, h3, h4⟩
  exact ⟨h1, kv, css, h2, h3, reps_all.2 h4⟩
end Nd
end Go.Tr

namespace Go.Proofs.YtggcpoleklcmkaaGreatDoor
open Go.Sl Go.Ls Go.Tr
attribute [local irreducible] WC WL WX WK WA WAK Val Ctr RunRes ResIs Rd At sl box pt Exit.then Exit.inBlock bodyPost Code.wp wpList
theorem kid_lt {nd : Nd} {N k : Nat} (hs : nd.size ≤ N + 1) (hk : k < nd.kids.length) : nd.kids[k].size ≤ N := by
 have := Nd.size_le_sizes (List.getElem_mem hk)
 cases nd with | mk i g ks =>
 simp only [Nd.size] at hs
 simp only [Nd.kids] at this
 show Nd.size (ks[k]'hk) ≤ N
 omega
theorem sizes_lt (nd : Nd) : nd.size = 1 + Nd.sizes nd.kids := by cases nd; rfl
theorem take1 {α : Type} (l : List α) (k : Nat) (h : k < l.length) : l.take (k + 1) = l.take k ++ [l[k]] := List.take_succ_eq_append_getElem h
end Go.Proofs.YtggcpoleklcmkaaGreatDoor

namespace Go.Tr
open Go.Sl Go.Ls
theorem with_id (i : Int) (l : List Nd) (n : Nd) : (Nd.with_ i l n).id = n.id ∧ (Nd.with_ i l n).grp = n.grp := by cases n; exact ⟨rfl, rfl⟩
end Go.Tr
namespace Go.Proofs.YtggcpoleklcmkaaGreatDoor
open Go.Sl Go.Ls Go.Tr
attribute [local irreducible] WC WL WX WK WA WAK Val Ctr RunRes ResIs Rd At sl box pt Exit.then Exit.inBlock bodyPost Code.wp wpList
theorem kid_sz {nd : Nd} {k : Nat} (hk : k < nd.kids.length) : nd.kids[k].size ≤ Nd.sizes nd.kids := Nd.size_le_sizes (List.getElem_mem hk)
theorem flat_take {α : Type} (ls : List (List α)) (j : Nat) (h : j < ls.length) : (ls.take (j + 1)).flatten = (ls.take j).flatten ++ ls[j] := by
 rw [List.take_succ_eq_append_getElem h, List.flatten_append]; simp
end Go.Proofs.YtggcpoleklcmkaaGreatDoor

namespace Go.Tr
open Go.Sl Go.Ls
namespace Nd
mutual
def wrong (top : Nd) : Nd → List Int → Int → Int × List Int
 | .mk i g ks, seen, d => if i < 1 ∨ 2147483648 < i then (30, []) else if (find i top).isSome = true then (32, []) else if i ∈ seen then (32, []) else if g = false ∧ 0 < ks.length then (33, []) else if 64 < d then (35, []) else wrongs top ks (seen ++ [i]) (d + 1)
def wrongs (top : Nd) : List Nd → List Int → Int → Int × List Int
 | [], seen, _ => (0, seen)
 | k :: ks, seen, d => if (wrong top k seen d).1 = 0 then wrongs top ks (wrong top k seen d).2 d else ((wrong top k seen d).1, [])
end
def fits (top n : Nd) (d : Int) : Int := if 65536 < (top.size : Int) - 1 + n.size then 36 else (wrong top n [] d).1
end Nd
end Go.Tr
namespace Go.Proofs.YtggcpoleklcmkaaGreatDoor
open Go.Sl Go.Ls Go.Tr
attribute [local irreducible] WC WL WX WK WA WAK Val Ctr RunRes ResIs Rd At sl box pt Exit.then Exit.inBlock bodyPost Code.wp wpList
end Go.Proofs.YtggcpoleklcmkaaGreatDoor

namespace Go.Tr
open Go.Sl Go.Ls
namespace Nd
theorem find_size (i : Int) : ∀ (n m : Nd), find i n = some m → m.size ≤ n.size := by
 intro n
 refine Nd.rec (motive_1 := fun n => ∀ m, find i n = some m → m.size ≤ n.size) (motive_2 := fun l => ∀ m, finds i l = some m → m.size ≤ sizes l) ?_ ?_ ?_ n
 ·intro j g ks ih m h
  simp only [find] at h
  split at h
  ·injection h with h; rw [← h]; exact Nat.le_refl _
  ·have := ih m h
   simp only [size]; omega
 ·intro m h; simp [finds] at h
 ·intro k ks h1 h2 m h
  simp only [finds, sizes] at h ⊢
  cases hk : find i k with
  | some x => rw [hk] at h; injection h with h; subst h; have := h1 _ hk; omega
  | none => rw [hk] at h; have := h2 _ h; omega
def add (top : Nd) (parent index : Int) (n : Nd) : Nd × Int :=
 match find parent top with
 | none => (top, 31)
 | some p => if p.grp = false then (top, 33) else if index < 0 ∨ (p.kids.length : Int) < index then (top, 30)
  else if fits top n (depth parent top + 1) ≠ 0 then (top, fits top n (depth parent top + 1))
  else (with_ parent (p.kids.take index.toNat ++ (n :: p.kids.drop index.toNat)) top, 0)
end Nd
end Go.Tr
namespace Go.Proofs.YtggcpoleklcmkaaGreatDoor
open Go.Sl Go.Ls Go.Tr
end Go.Proofs.YtggcpoleklcmkaaGreatDoor

namespace Go.Tr
open Go.Sl Go.Ls
namespace Nd
def zero : Nd := .mk 0 false []
def remove (top : Nd) (i : Int) : Nd × Nd × Int × Int × Int :=
 if i = 0 then (top, zero, 0, 0, 30) else match find i top with
 | none => (top, zero, 0, 0, 31)
 | some n => match whr i top with
  | none => (top, zero, 0, 0, 0)
  | some (q, k) => match find q top with
   | none => (top, zero, 0, 0, 0)
   | some p => (with_ q (p.kids.take k.toNat ++ p.kids.drop (k.toNat + 1)) top, n, q, k, 0)
end Nd
end Go.Tr
namespace Go.Proofs.YtggcpoleklcmkaaGreatDoor
open Go.Sl Go.Ls Go.Tr
theorem i64_0 : I64 0 := ⟨by decide, by decide⟩
end Go.Proofs.YtggcpoleklcmkaaGreatDoor

namespace Go.Tr
open Go.Sl Go.Ls
namespace Nd
def move (top : Nd) (i parent index : Int) : Nd × Int :=
 if (remove top i).2.2.2.2 ≠ 0 then (top, (remove top i).2.2.2.2) else match find parent top with
 | none => (top, 31)
 | some p => if p.grp = false then (top, 33) else if (find parent (remove top i).2.1).isSome = true then (top, 34)
  else if index < 0 ∨ (((find parent (remove top i).1).getD zero).kids.length : Int) < index then (top, 30)
  else if 64 < depth parent (remove top i).1 + (remove top i).2.1.height then (top, 35)
  else (with_ parent (((find parent (remove top i).1).getD zero).kids.take index.toNat ++ ((remove top i).2.1 :: ((find parent (remove top i).1).getD zero).kids.drop index.toNat)) (remove top i).1, 0)
end Nd
end Go.Tr
namespace Go.Proofs.YtggcpoleklcmkaaGreatDoor
open Go.Sl Go.Ls Go.Tr
end Go.Proofs.YtggcpoleklcmkaaGreatDoor

namespace Go.Tr
open Go.Sl Go.Ls
namespace Nd
def wrap (top : Nd) (i parent index count : Int) : Nd × Int :=
 match find parent top with
 | none => (top, 31)
 | some p => if p.grp = false then (top, 33)
  else if index < 0 ∨ count < 0 ∨ (p.kids.length : Int) < index ∨ (p.kids.length : Int) - index < count then (top, 30)
  else if fits top (mk i true []) (depth parent top + 1) ≠ 0 then (top, fits top (mk i true []) (depth parent top + 1))
  else if 64 < depth parent top + 1 + (mk i true ((p.kids.drop index.toNat).take count.toNat)).height - 1 then (top, 35)
  else (with_ parent (p.kids.take index.toNat ++ (mk i true ((p.kids.drop index.toNat).take count.toNat) :: p.kids.drop (index.toNat + count.toNat))) top, 0)
end Nd
end Go.Tr
namespace Go.Proofs.YtggcpoleklcmkaaGreatDoor
open Go.Sl Go.Ls Go.Tr
end Go.Proofs.YtggcpoleklcmkaaGreatDoor

namespace Go.Tr
open Go.Sl Go.Ls
namespace Nd
def unwrap (top : Nd) (i : Int) : Nd × Int × Int × Int × Int :=
 if (remove top i).2.2.2.2 ≠ 0 then (top, 0, 0, 0, (remove top i).2.2.2.2)
 else if (remove top i).2.1.grp = false then (top, 0, 0, 0, 33)
 else (with_ (remove top i).2.2.1 (((find (remove top i).2.2.1 top).getD zero).kids.take (remove top i).2.2.2.1.toNat ++ ((remove top i).2.1.kids ++ ((find (remove top i).2.2.1 top).getD zero).kids.drop ((remove top i).2.2.2.1.toNat + 1))) top, (remove top i).2.2.1, (remove top i).2.2.2.1, (remove top i).2.1.kids.length, 0)
end Nd
end Go.Tr
namespace Go.Proofs.YtggcpoleklcmkaaGreatDoor
open Go.Sl Go.Ls Go.Tr
end Go.Proofs.YtggcpoleklcmkaaGreatDoor

namespace Go.Tr
open Go.Sl Go.Ls
end Go.Tr
namespace Go.Proofs.YtggcpoleklcmkaaGreatDoor
open Go.Sl Go.Ls Go.Tr
end Go.Proofs.YtggcpoleklcmkaaGreatDoor

namespace Go.Tr
open Go.Sl Go.Ls
end Go.Tr
namespace Go.Proofs.YtggcpoleklcmkaaGreatDoor
open Go.Sl Go.Ls Go.Tr
end Go.Proofs.YtggcpoleklcmkaaGreatDoor

namespace Go.Tr
open Go.Sl Go.Ls
structure Cel where
 id : Int
 grp : Bool
 par : Int
 kids : List Int
 kv : Value
structure Ar where
 b : Nat
 mb : Nat
 cg : Nat
 cc : Nat
 cells : List Cel
 fv : Value
 free : List Int
 at_ : Int → Option Int
 cnt : Nat
def Cel.cs (c : Cel) : List Value := [vi c.id, .bool c.grp, vi c.par, c.kv]
def Cel.row (c : Cel) : HP := sl 3 1 c.kv c.kids.length (c.kids.map vi)
def Ar.flat (A : Ar) : List Value := (A.cells.map Cel.cs).flatten
def Ar.look (A : Ar) : Int → Option Value := fun k => (A.at_ k).map vi
abbrev Ar.cv (A : Ar) : Value := .slice (some ⟨A.cg, 0, none⟩) A.cells.length A.cc
abbrev Ar.hp (A : Ar) : List HP := [box A.b 145 [A.cv, A.fv, .map (some A.mb)], sl 191 4 A.cv A.cells.length A.flat, sl 3 1 A.fv A.free.length (A.free.map vi), mp A.mb A.look A.cnt, sts (A.cells.map Cel.row)]
abbrev Ar.on (A : Ar) (L : List HP) : List HP := box A.b 145 [A.cv, A.fv, .map (some A.mb)] :: sl 191 4 A.cv A.cells.length A.flat :: sl 3 1 A.fv A.free.length (A.free.map vi) :: mp A.mb A.look A.cnt :: sts (A.cells.map Cel.row) :: L
theorem Ar.at {A : Ar} {i : Nat} (hi : i < A.cells.length) (f : Nat) (hf : f < 4) : A.flat[0 + ((i : Nat) : Int).toNat * 4 + f]? = (A.cells[i]).cs[f]? := by
 have h : ∀ c ∈ A.cells.map Cel.cs, c.length = 4 := fun c hc => by
  obtain ⟨x, _, rfl⟩ := List.mem_map.1 hc; rfl
 rw [Nat.zero_add, Int.toNat_natCast, Ar.flat, flat_at (by decide) _ h i f hf]
 simp [hi]
theorem Ar.c0 {A : Ar} {i : Nat} (hi : i < A.cells.length) : A.flat[0 + ((i : Nat) : Int).toNat * 4]? = some (vi (A.cells[i]).id) := Ar.at hi 0 (by decide)
theorem Ar.c1 {A : Ar} {i : Nat} (hi : i < A.cells.length) : A.flat[0 + ((i : Nat) : Int).toNat * 4 + 1]? = some (.bool (A.cells[i]).grp) := Ar.at hi 1 (by decide)
theorem Ar.c2 {A : Ar} {i : Nat} (hi : i < A.cells.length) : A.flat[0 + ((i : Nat) : Int).toNat * 4 + 2]? = some (vi (A.cells[i]).par) := Ar.at hi 2 (by decide)
theorem Ar.c3 {A : Ar} {i : Nat} (hi : i < A.cells.length) : A.flat[0 + ((i : Nat) : Int).toNat * 4 + 3]? = some (A.cells[i]).kv := Ar.at hi 3 (by decide)
end Go.Tr
namespace Go.Proofs.YtggcpoleklcmkaaGreatDoor
open Go.Sl Go.Ls Go.Tr
instance : MapK Tryz.prog 143 (vi 0) := ⟨by kernel_rfl⟩
theorem tFind (A : Ar) (i : Int) (I : Mem) :
  Ctr Tryz.prog 78 [ptr A.b, vi i] I A.hp (Keep I A.hp fun v => v = .tuple #[vi ((A.at_ i).getD 0), .bool (A.at_ i).isSome]) := by
 refine Ctr.intro Tryz.func78 rfl rfl rfl fun E F => ?_
 refine jS (jf rfl (jg rfl (jN (jd rfl (jm (jr rfl) (jm (jn rfl) (jm (jp 1 rfl rfl rfl) (ja rfl (jm (Val.lookup2 4 rfl rfl rfl) ?_)))))))))
 have he : ((A.look i).getD (vi 0) = vi ((A.at_ i).getD 0)) ∧ (A.look i).isSome = (A.at_ i).isSome := by
  unfold Ar.look
  cases A.at_ i <;> exact ⟨rfl, rfl⟩
 rw [he.1, he.2]
 refine je rfl (jm (jq rfl rfl) (jm (Val.extractB rfl rfl) (jf rfl (jg rfl (jN (ja rfl (jb rfl (jf rfl (jg rfl (jM (jR ?_)))))))))))
 exact jP [0, 0, 0, 0, 0] (jr2 rfl (jtI rfl) (jtB rfl)) ⟨rfl, rfl, rfl⟩
end Go.Proofs.YtggcpoleklcmkaaGreatDoor

namespace Go.Tr
open Go.Sl Go.Ls
structure Ar.Ok (A : Ar) : Prop where
 len : A.cells.length ≤ 1000000000
 at_lt : ∀ i p, A.at_ i = some p → ∃ n : Nat, p = n ∧ n < A.cells.length
 par : ∀ c ∈ A.cells, I64 c.par
 id : ∀ c ∈ A.cells, I64 c.id
 kidl : ∀ c ∈ A.cells, c.kids.length ≤ 1000000000
inductive Ch (A : Ar) : Nat → List Nat → Prop where
 | top {i : Nat} (hi : i < A.cells.length) (h : (A.cells[i]).par < 0) : Ch A i [i]
 | up {i p : Nat} {l : List Nat} (hi : i < A.cells.length) (h : (A.cells[i]).par = (p : Int)) (hl : Ch A p l) : Ch A i (i :: l)
def Ar.grp (A : Ar) (i : Int) : Int × Int :=
 match A.at_ i with
 | none => (0, 31)
 | some p => if ((A.cells[p.toNat]?).map Cel.grp).getD false then (p, 0) else (0, 33)
end Go.Tr
namespace Go.Proofs.YtggcpoleklcmkaaGreatDoor
open Go.Sl Go.Ls Go.Tr
theorem tCount (A : Ar) (I : Mem) (hc : A.cnt ≤ 1000000000) :
  Ctr Tryz.prog 30 [ptr A.b] I A.hp (Keep I A.hp fun v => v = vi ((A.cnt : Int) - 1)) := by
 refine Ctr.intro Tryz.func30 rfl rfl rfl fun E F => ?_
 refine jS (jf rfl (jN (jd rfl (jm (jr rfl) (jm (jn rfl) (jm (jp 1 rfl rfl rfl) (jm (Val.lenMap 4 rfl rfl) ?_)))))))
 refine jm (Val.sub rfl rfl (wrap_i64 (by omega) (by omega))) ?_
 refine jf rfl (jM (jR ?_))
 exact jP [0, 0, 0, 0, 0] (jr1 rfl (jtI rfl)) ⟨rfl, rfl, rfl⟩
theorem tGroup (A : Ar) (i : Int) (I : Mem) (hA : A.Ok) :
  Ctr Tryz.prog 140 [ptr A.b, vi i] I A.hp (Keep I A.hp fun v => v = .tuple #[vi (A.grp i).1, vi (A.grp i).2]) := by
 refine Ctr.intro Tryz.func140 rfl rfl rfl fun E F => ?_
 refine jS (jf rfl (jf rfl (jN (jd rfl (ja rfl (WL.callK [1, 1, 1, 1, 1] rfl rfl rfl (tFind A i _) rfl ?_))))))
 rintro _ rfl
 cases hat : A.at_ i with
 | none =>
  refine je rfl (jm (jq rfl rfl) (jm (Val.extractB rfl rfl) (jf rfl (jg rfl (jM (jB (WC.block (jS (jb rfl (jl rfl (jg rfl (jM (jF (jS (jf rfl (jf rfl (jM (jR (WX.inRet (jU ?_))))))))))))))))))))
  exact jP [0, 0, 0, 0, 0] (jr2 rfl (jtI rfl) (jtI rfl)) ⟨rfl, rfl, by rw [Ar.grp, hat]⟩
 | some p =>
  obtain ⟨n, rfl, hn⟩ := hA.at_lt i p hat
  have h1 := Ar.c1 hn
  simp only [Option.getD_some, Option.isSome_some]
  cases hg : (A.cells[n]).grp
  ·rw [hg] at h1
   have hr : A.grp i = (0, 33) := by
    simp only [Ar.grp, hat, Int.toNat_natCast, List.getElem?_eq_getElem hn, Option.map_some, hg, Option.getD_some, Bool.false_eq_true, if_false]
   refine je rfl (jm (jq rfl rfl) (jm (Val.extractB rfl rfl) (jf rfl (jg rfl (jM (jB (WC.block (jS (jb rfl (jl rfl (jg rfl (jM (jE (jS (jd rfl (jm (jr rfl) (jm (jn rfl) (jm (jp 1 rfl rfl rfl) (ja rfl (jm (jZ rfl rfl) (jm (jn rfl) (jm (Val.loadS rfl (Rd.sl1 2 rfl (by assumption))) ?_))))))))))))))))))))))
   refine jl rfl (jg rfl (jM (jF (jS (jf rfl (jf rfl (jM (jR (WX.inRet (jU ?_))))))))))
   exact jP [0, 0, 0, 0, 0] (jr2 rfl (jtI rfl) (jtI rfl)) ⟨rfl, rfl, by rw [hr]⟩
  ·rw [hg] at h1
   have hr : A.grp i = ((n : Int), 0) := by
    simp only [Ar.grp, hat, Int.toNat_natCast, List.getElem?_eq_getElem hn, Option.map_some, hg, Option.getD_some, if_true]
   refine je rfl (jm (jq rfl rfl) (jm (Val.extractB rfl rfl) (jf rfl (jg rfl (jM (jB (WC.block (jS (jb rfl (jl rfl (jg rfl (jM (jE (jS (jd rfl (jm (jr rfl) (jm (jn rfl) (jm (jp 1 rfl rfl rfl) (ja rfl (jm (jZ rfl rfl) (jm (jn rfl) (jm (Val.loadS rfl (Rd.sl1 2 rfl (by assumption))) ?_))))))))))))))))))))))
   refine jl rfl (jg rfl (jM (jE (jV (WX.inNormal (jK (ja rfl (jf rfl (jf rfl (jM (jR ?_)))))))))))
   exact jP [0, 0, 0, 0, 0] (jr2 rfl (jtI rfl) (jtI rfl)) ⟨rfl, rfl, by rw [hr]⟩
theorem tIsGroup (A : Ar) (i : Int) (I : Mem) (hA : A.Ok) :
  Ctr Tryz.prog 116 [ptr A.b, vi i] I A.hp (Keep I A.hp fun v => v = .bool ((A.grp i).2 == 0)) := by
 refine Ctr.intro Tryz.func116 rfl rfl rfl fun E F => ?_
 refine jS (jg rfl (jN (jd rfl (ja rfl (WL.callK [1, 1, 1, 1, 1] rfl rfl rfl (tGroup A i _ hA) rfl ?_)))))
 rintro _ rfl
 refine je rfl (jm (jq rfl rfl) (jm (jq rfl rfl) (jf rfl (jf rfl (jN (ja rfl (jm (Val.eql rfl rfl rfl) ?_)))))))
 refine jg rfl (jM (jR ?_))
 exact jP [0, 0, 0, 0, 0] (jr1 rfl (jtB rfl)) ⟨rfl, rfl, rfl⟩
theorem tInner (A : Ar) (i : Int) (I : Mem) :
  Ctr Tryz.prog 147 [ptr A.b, vi i] I A.hp (Keep I A.hp fun v => v = if i = 0 then .tuple #[vi 0, vi 30] else match A.at_ i with | none => .tuple #[vi 0, vi 31] | some p => .tuple #[vi p, vi 0]) := by
 refine Ctr.intro Tryz.func147 rfl rfl rfl fun E F => ?_
 by_cases h0 : i = 0
 ·skip
  refine jS (jf rfl (jf rfl (jM (jB (jS (ja rfl (jw rfl rfl (jM (jF (jS (jf rfl (jf rfl (jM (jR (jU ?_)))))))))))))))
  exact jP [0, 0, 0, 0, 0] (jr2 rfl (jtI rfl) (jtI rfl)) ⟨rfl, rfl, by rw [if_pos h0]⟩
 refine jS (jf rfl (jf rfl (jM (jB (jS (ja rfl (jv rfl rfl (jM (jE (jV (jK (jd rfl (ja rfl (WL.callK [1, 1, 1, 1, 1] rfl rfl rfl (tFind A i _) rfl ?_))))))))))))))
 rintro _ rfl
 cases hat : A.at_ i with
 | none =>
  refine je rfl (jm (jq rfl rfl) (jm (Val.extractB rfl rfl) (jf rfl (jg rfl (jM (jB (jS (jb rfl (jl rfl (jM (jF (jS (jf rfl (jf rfl (jM (jR (jU ?_)))))))))))))))))
  exact jP [0, 0, 0, 0, 0] (jr2 rfl (jtI rfl) (jtI rfl)) ⟨rfl, rfl, by rw [if_neg h0]⟩
 | some p =>
  simp only [Option.getD_some, Option.isSome_some]
  refine je rfl (jm (jq rfl rfl) (jm (Val.extractB rfl rfl) (jf rfl (jg rfl (jM (jB (jS (jb rfl (jl rfl (jM (jE (jV (jK (ja rfl (jf rfl (jf rfl (jM (jR ?_))))))))))))))))))
  exact jP [0, 0, 0, 0, 0] (jr2 rfl (jtI rfl) (jtI rfl)) ⟨rfl, rfl, by rw [if_neg h0]⟩
theorem tDepthP (A : Ar) (i : Nat) (l : List Nat) (I : Mem) (hA : A.Ok) (hl : Ch A i l) (hll : l.length ≤ 1000000000) :
  Ctr Tryz.prog 142 [ptr A.b, vi i] I A.hp (Keep I A.hp fun v => v = vi ((l.length : Int) - 1)) := by
 refine Ctr.intro Tryz.func142 rfl rfl rfl fun E F => ?_
 refine jS (jf rfl (jN (jf rfl (jM (jB (WC.block ?_))))))
 refine WC.loop (fun n ρ' I' L' => ∃ (j m : Nat) (r : List Nat), n = r.length ∧ Ch A j r ∧ m + r.length = l.length ∧ I' = I ∧ ρ' 0 = ptr A.b ∧ ρ' 1 = vi j ∧ ρ' 5 = vi m ∧ L' = F :: A.hp)
  l.length ⟨i, 0, l, rfl, hl, by omega, rfl, rfl, rfl, rfl, rfl⟩ ?_
 rintro n ρ' I0 L' ⟨j, m, r, rfl, hr, hm, rfl, h0, h1, h5, rfl⟩
 refine ju3 h5 h1 h0 ?_
 cases hr with
 | top hj hp =>
  have hc := Ar.c2 hj
  refine jB (jS (jd rfl (jm (jr rfl) (jm (jn rfl) (jm (jp 1 rfl rfl rfl) (ja rfl (jm (jZ rfl rfl) (jm (jn rfl) (jm (Val.loadS rfl (Rd.sl1 2 rfl (by assumption))) ?_)))))))))
  refine jm (Val.geq rfl rfl (decide_eq_false (by omega))) ?_
  refine jM (jE (WC.exit (WX.thenExit (WX.thenExit (WX.inHit (jK (ja rfl (jf rfl (jM (jR ?_))))))))))
  refine jP [0, 0, 0, 0, 0] (jr1 rfl (jtI rfl)) ?_
  refine ⟨rfl, rfl, ?_⟩
  congr 1
  simp only [List.length_cons, List.length_nil] at hm
  omega
 | up hj hp hr =>
  rename_i p r
  have hc := Ar.c2 hj
  rw [hp] at hc
  simp only [List.length_cons] at hm
  refine jB (jS (jd rfl (jm (jr rfl) (jm (jn rfl) (jm (jp 1 rfl rfl rfl) (ja rfl (jm (jZ rfl rfl) (jm (jn rfl) (jm (Val.loadS rfl (Rd.sl1 2 rfl (by assumption))) ?_)))))))))
  refine jm (Val.geq rfl rfl (decide_eq_true (by omega))) ?_
  refine jM (jF (jV (jA (jB (WC.block (jD (ja rfl (jX rfl rfl (jf rfl (jC (WX.inNormal (jA (jD (jd rfl (jm (jr rfl) (jm (jn rfl) (jm (jp 1 rfl rfl rfl) (ja rfl (jm (jZ rfl rfl) (jm (jn rfl) (jm (Val.loadS rfl (Rd.sl1 2 rfl (by assumption))) ?_)))))))))))))))))))))
  refine jf rfl (jC ?_)
  refine WX.thenK (WK.round r.length (by simp) ⟨p, m + 1, r, rfl, hr, by omega, rfl, rfl, rfl, rfl, rfl⟩)
end Go.Proofs.YtggcpoleklcmkaaGreatDoor

namespace Go.Tr
open Go.Sl Go.Ls
mutual
def Tr (A : Ar) (p : Int) : Nat → Nd → Prop
 | i, .mk j g ks => ∃ hi : i < A.cells.length, (A.cells[i]).id = j ∧ (A.cells[i]).grp = g ∧ (A.cells[i]).par = p ∧ Trs A (i : Int) (A.cells[i]).kids ks
def Trs (A : Ar) (p : Int) : List Int → List Nd → Prop
 | [], [] => True
 | k :: l, n :: ns => (∃ q : Nat, k = (q : Int) ∧ Tr A p q n) ∧ Trs A p l ns
 | [], _ :: _ => False
 | _ :: _, [] => False
end
theorem Tr.ex {A : Ar} {p : Int} {i : Nat} {nd : Nd} (h : Tr A p i nd) : ∃ hi : i < A.cells.length, (A.cells[i]).id = nd.id ∧ (A.cells[i]).grp = nd.grp ∧ (A.cells[i]).par = p ∧ Trs A (i : Int) (A.cells[i]).kids nd.kids := by
 cases nd; rw [Tr] at h; exact h
theorem Trs.len {A : Ar} {p : Int} : ∀ {l : List Int} {ns : List Nd}, Trs A p l ns → l.length = ns.length
 | [], [], _ => rfl
 | k :: l, n :: ns, h => by rw [Trs] at h; rw [List.length_cons, List.length_cons, Trs.len h.2]
 | [], _ :: _, h => by rw [Trs] at h; exact h.elim
 | _ :: _, [], h => by rw [Trs] at h; exact h.elim
theorem Trs.get {A : Ar} {p : Int} : ∀ {l : List Int} {ns : List Nd}, Trs A p l ns → ∀ (k : Nat) (h1 : k < l.length) (h2 : k < ns.length), ∃ q : Nat, l[k] = (q : Int) ∧ Tr A p q ns[k]
 | _ :: _, _ :: _, h, 0, _, _ => by rw [Trs] at h; exact h.1
 | _ :: l, _ :: ns, h, k + 1, h1, h2 => by rw [Trs] at h; exact Trs.get h.2 k (by simpa using h1) (by simpa using h2)
 | [], [], _, k, h1, _ => by simp at h1
 | [], _ :: _, h, _, _, _ => by rw [Trs] at h; exact h.elim
 | _ :: _, [], h, _, _, _ => by rw [Trs] at h; exact h.elim
theorem Ar.row {A : Ar} {i : Nat} (hi : i < A.cells.length) : (A.cells.map Cel.row)[i]? = some (sl 3 1 (A.cells[i]).kv (A.cells[i]).kids.length ((A.cells[i]).kids.map vi)) := by
 simp [hi, Cel.row]
end Go.Tr
namespace Go.Proofs.YtggcpoleklcmkaaGreatDoor
open Go.Sl Go.Ls Go.Tr
theorem tBelow (A : Ar) (i t : Nat) (l : List Nat) (I : Mem) (hA : A.Ok) (hl : Ch A i l) :
  Ctr Tryz.prog 151 [ptr A.b, vi i, vi t] I A.hp (Keep I A.hp (EqP (t ∈ l))) := by
 refine Ctr.intro Tryz.func151 rfl rfl rfl fun E F => ?_
 refine jS (jg rfl (jM (jB (WC.block ?_))))
 refine WC.loop (fun n ρ' I' L' => ∃ (j : Int) (r : List Nat), n = r.length ∧ ((r = [] ∧ j < 0 ∧ I64 j) ∨ ∃ q : Nat, j = q ∧ Ch A q r) ∧ (t ∈ l ↔ t ∈ r) ∧ I' = I ∧ ρ' 0 = ptr A.b ∧ ρ' 1 = vi j ∧ ρ' 2 = vi t ∧ L' = F :: A.hp)
  l.length ⟨i, l, rfl, .inr ⟨i, rfl, hl⟩, Iff.rfl, rfl, rfl, rfl, rfl, rfl⟩ ?_
 rintro n ρ' I0 L' ⟨j, r, rfl, hr, hm, rfl, h0, h1, h2, rfl⟩
 refine ju3 h2 h1 h0 ?_
 rcases hr with ⟨rfl, hj, hji⟩ | ⟨q, rfl, hr⟩
 ·skip
  refine jB (jS (ja rfl (jm (Val.geq rfl rfl (decide_eq_false (by omega))) ?_)))
  refine jM (jE (WC.exit (WX.thenExit (WX.thenExit (WX.inHit (jK (jg rfl (jM (jR ?_)))))))))
  exact jP [0, 0, 0, 0, 0] (jr1 rfl (jtB rfl)) ⟨rfl, rfl, EqP.f fun h => by simpa using hm.1 h⟩
 have hq : q < A.cells.length := by cases hr <;> assumption
 have hc := Ar.c2 hq
 have hpi := hA.par _ (List.getElem_mem hq)
 by_cases hqt : q = t
 ·subst hqt
  refine jB (jS (ja rfl (jm (Val.geq rfl rfl (decide_eq_true (by omega))) ?_)))
  refine jM (jF (jV (jA (jB (WC.block (jS (ja rfl (ja rfl (jw rfl rfl (jM (jF (jS (jg rfl (jM (jR (WX.inRet (jU (jU (WX.inRet (jU ?_))))))))))))))))))))
  refine jP [0, 0, 0, 0, 0] (jr1 rfl (jtB rfl)) ?_
  refine ⟨rfl, rfl, EqP.t (hm.2 ?_)⟩
  cases hr <;> exact List.mem_cons_self
 ·cases hr with
  | top hi hp =>
   refine jB (jS (ja rfl (jm (Val.geq rfl rfl (decide_eq_true (by omega))) ?_)))
   refine jM (jF (jV (jA (jB (WC.block (jS (ja rfl (ja rfl (jv rfl rfl (jM (jE (jV (WX.inNormal (jA (jD (jd rfl (jm (jr rfl) (jm (jn rfl) (jm (jp 1 rfl rfl rfl) (ja rfl (jm (jZ rfl rfl) (jm (jn rfl) (jm (Val.loadS rfl (Rd.sl1 2 rfl (by assumption))) ?_)))))))))))))))))))))))
   refine jf rfl (jC ?_)
   refine WX.thenK (WK.round 0 (by simp) ⟨_, [], rfl, .inl ⟨rfl, hp, hpi⟩, ?_, rfl, rfl, rfl, rfl, rfl⟩)
   rw [hm]
   simp
   exact fun h => hqt h.symm
  | up hi hp hr =>
   rename_i p r
   rw [hp] at hc
   refine jB (jS (ja rfl (jm (Val.geq rfl rfl (decide_eq_true (by omega))) ?_)))
   refine jM (jF (jV (jA (jB (WC.block (jS (ja rfl (ja rfl (jv rfl rfl (jM (jE (jV (WX.inNormal (jA (jD (jd rfl (jm (jr rfl) (jm (jn rfl) (jm (jp 1 rfl rfl rfl) (ja rfl (jm (jZ rfl rfl) (jm (jn rfl) (jm (Val.loadS rfl (Rd.sl1 2 rfl (by assumption))) ?_)))))))))))))))))))))))
   refine jf rfl (jC ?_)
   refine WX.thenK (WK.round r.length (by simp) ⟨p, r, rfl, .inr ⟨p, rfl, hr⟩, ?_, rfl, rfl, rfl, rfl, rfl⟩)
   rw [hm]
   simp
   exact fun h => absurd h.symm hqt
theorem tHeight (A : Ar) (hA : A.Ok) (N : Nat) : ∀ (nd : Nd), nd.size ≤ N → ∀ (p : Int) (i : Nat) (I : Mem), nd.size ≤ 1000000000 → Tr A p i nd →
  Ctr Tryz.prog 152 [ptr A.b, vi i] I A.hp (Keep I A.hp fun v => v = vi nd.height) := by
 induction N with
 | zero => intro nd h; have := nd.size_pos; omega
 | succ N ih =>
  intro nd hs p i I hb ht
  obtain ⟨hi, hid, hgr, hpa, hks⟩ := ht.ex
  have hsz := sizes_lt nd
  have hll := Nd.len_le_sizes nd.kids
  have hlk := hks.len
  have hc := Ar.c3 hi
  have hrow := Ar.row hi
  refine Ctr.intro Tryz.func152 rfl rfl rfl fun E F => ?_
  refine WC.rowOpen 5 i rfl hrow fun aa cap hkv hg => ?_
  rw [hkv] at hc hrow
  refine jS (jf rfl (jN (jf rfl (jM (jB (jS (jd rfl (jm (jr rfl) (jm (jn rfl) (jm (jp 1 rfl rfl rfl) (ja rfl (jm (jZ rfl rfl) (jm (jn rfl) (jm (Val.loadS rfl (Rd.sl1 2 rfl (by assumption))) ?_))))))))))))))
  refine jm (jo rfl) (ja rfl (jM (WC.block ?_)))
  refine WC.loop (fun n ρ' I' L' => ∃ k : Nat, n = nd.kids.length - k ∧ k ≤ nd.kids.length ∧ I' = I ∧ ρ' 0 = ptr A.b ∧ ρ' 5 = vi (Nd.heights (nd.kids.take k) : Nat) ∧ ρ' 15 = .slice aa (A.cells[i]).kids.length cap ∧ ρ' 16 = vi (A.cells[i]).kids.length ∧ ρ' 17 = vi k ∧ L' = F :: A.hp)
   nd.kids.length ⟨0, rfl, by omega, rfl, rfl, rfl, rfl, rfl, rfl, rfl⟩ ?_
  rintro n ρ' I0 L' ⟨k, rfl, hk, rfl, h0, h5, h15, h16, h17, rfl⟩
  refine ju5 h17 h16 h15 h5 h0 ?_
  by_cases hkn : k < nd.kids.length
  ·obtain ⟨g, rfl⟩ := hg (by omega)
   obtain ⟨q, hq, htq⟩ := hks.get k (by omega) hkn
   have hv : ((A.cells[i]).kids.map vi)[0 + ((k : Nat) : Int).toNat * 1]? = some (vi q) := by
    rw [Nat.zero_add, Int.toNat_natCast, Nat.mul_one, List.getElem?_map, List.getElem?_eq_getElem (by omega), hq]; rfl
   have hbk := kid_sz hkn
   have htk : Nd.heights (nd.kids.take (k + 1)) = max (Nd.heights (nd.kids.take k)) nd.kids[k].height := by rw [take1 _ _ hkn, Nd.heights_app]; simp [Nd.heights]
   refine jS (jy rfl rfl (jM (jB (jF (jV (jA (jB (WC.block (jS (jm (jZ rfl rfl) (jm (Val.loadS rfl (Rd.row1 5 i rfl hrow hv)) ?_)))))))))))
   refine jf rfl (jM (jD (ja rfl (jd rfl (ja rfl (WL.callK [1, 1, 1, 1, 1] rfl rfl rfl (ih _ (kid_lt hs hkn) _ _ _ (by omega) htq) rfl ?_))))))
   rintro _ rfl
   refine jm (Val.maxI rfl rfl) ?_
   refine jf rfl (jC (WX.inNormal (jA (jD (jX rfl rfl (ja rfl (jC ?_)))))))
   refine WX.thenK (WK.round (nd.kids.length - (k + 1)) (by omega) ⟨k + 1, rfl, by omega, rfl, rfl, ?_, rfl, rfl, rfl, rfl⟩)
   show vi _ = vi _
   congr 1
   rw [htk]
   omega
  ·have hfin : k = nd.kids.length := by omega
   have hh : Nd.heights (nd.kids.take k) + 1 = nd.height := by
    rw [hfin, List.take_length]; cases nd; rfl
   have hhl := Nd.height_le nd
   refine jS (jx rfl rfl (jM (jB (jE (WC.exit (WX.thenExit (WX.thenExit (WX.inHit (jK (ja rfl (jX rfl rfl (jf rfl (jM (jR ?_))))))))))))))
   refine jP [0, 0, 0, 0, 0] (jr1 rfl (jtI rfl)) ?_
   refine ⟨rfl, rfl, ?_⟩
   show vi _ = vi _
   congr 1
   omega
attribute [local irreducible] WC WL WX WK WA WAK Val Ctr RunRes ResIs Rd At sl box pt Exit.then Exit.inBlock bodyPost Code.wp wpList
def NdAt (n : Nd) : Value → Mem → Prop := fun v I' => ∃ kv, v = .agg #[vi n.id, .bool n.grp, kv] ∧ LsAt Nd.Rp I' n.kids kv ∧ I64 n.id
theorem tNode (A : Ar) (hA : A.Ok) (N : Nat) : ∀ (nd : Nd), nd.size ≤ N → ∀ (p : Int) (i : Nat) (I : Mem), nd.size ≤ 1000000000 → Tr A p i nd →
  Ctr Tryz.prog 79 [ptr A.b, vi i] I A.hp (KeepR A.hp (NdAt nd)) := by
 induction N with
 | zero => intro nd h; have := nd.size_pos; omega
 | succ N ih =>
  intro nd hs p i I hb ht
  obtain ⟨hi, hid, hgr, hpa, hks⟩ := ht.ex
  have hsz := sizes_lt nd
  have hll := Nd.len_le_sizes nd.kids
  have hlk := hks.len
  have hrow := Ar.row hi
  have hI64 : I64 nd.id := by rw [← hid]; exact hA.id _ (List.getElem_mem hi)
  refine Ctr.intro Tryz.func79 rfl rfl rfl fun E F => ?_
  refine WC.rowOpen 5 i rfl hrow fun aa cap hkv hg => ?_
  have hrd : ∀ j v, [vi nd.id, .bool nd.grp, vi p, .slice aa nd.kids.length cap][j]? = some v → A.flat[0 + ((i : Nat) : Int).toNat * 4 + j]? = some v := by
   intro j v hj
   have hj4 : j < 4 := by
    rcases Nat.lt_or_ge j 4 with h | h
    ·exact h
    ·rw [List.getElem?_eq_none (by simpa using h)] at hj; cases hj
   rw [Ar.at hi j hj4, ← hj]
   simp only [Cel.cs, hid, hgr, hpa, hkv, hlk]
  rw [hkv] at hrow
  refine jS (WL.alloc rfl (fun _ => ?_))
  refine jW ?_
  refine jN (jd rfl (jm (jr rfl) (jm (jn rfl) (jm (jp 1 rfl rfl rfl) (ja rfl (jm (jZ rfl rfl) (jm (Val.loadA rfl (Rd.slN 2 rfl _ [vi nd.id, .bool nd.grp, vi p, .slice aa nd.kids.length cap] hrd) rfl) ?_)))))))
  refine WL.alloc rfl (fun _ => ?_)
  refine jW ?_
  refine WL.stA 7 rfl rfl rfl rfl ?_
  refine jN (jm (jn rfl) (jm (jp 7 rfl rfl rfl) (jm (jn rfl) (jm (jp 7 rfl rfl rfl) (jm (Val.build (cs := [vi nd.id, .bool nd.grp, .slice none 0 0]) rfl) ?_)))))
  refine WL.alloc rfl (fun _ => ?_)
  refine jW ?_
  refine WL.stA 8 rfl rfl rfl rfl ?_
  refine jM (jB (jS (jm (jn rfl) (jm (jp 7 rfl rfl rfl) (jm (jo rfl) (ja rfl (jM (WC.block ?_))))))))
  rename_i g4 g5 g6
  refine WC.slNil 72 3 ?_
  refine WC.nApp ?_
  refine WC.loop (fun n ρ' I' L' => ∃ (k : Nat) (a : Option Addr) (c : Nat) (pp : HP), n = nd.kids.length - k ∧ k ≤ nd.kids.length ∧ I.le I' ∧ ρ' 0 = ptr A.b ∧ ρ' 4 = ptr g4 ∧ ρ' 6 = ptr g6 ∧ ρ' 22 = .slice aa nd.kids.length cap ∧ ρ' 23 = vi nd.kids.length ∧ ρ' 24 = vi k ∧
    L' = F :: A.on [box g4 72 [vi 0, .bool false, .slice none 0 0], box g5 191 [vi nd.id, .bool nd.grp, vi p, .slice aa nd.kids.length cap], box g6 72 [vi nd.id, .bool nd.grp, .slice a k c], pp] ∧ OwnL Nd.Rp 72 3 I' (nd.kids.take k) (.slice a k c) pp)
   nd.kids.length ⟨0, none, 0, _, rfl, by omega, Mem.le.refl _, rfl, rfl, rfl, rfl, rfl, rfl, rfl, [], rfl, trivial⟩ ?_
  rintro n ρ' I0 L' ⟨k, a, c, pp, rfl, hk, hI, h0, h4, h6, h22, h23, h24, rfl, hp⟩
  refine ju6 h24 h23 h22 h6 h4 h0 ?_
  have hwl : (nd.kids.take k).length = k := by rw [List.length_take]; omega
  by_cases hkn : k < nd.kids.length
  ·obtain ⟨g, rfl⟩ := hg (by omega)
   obtain ⟨q, hq, htq⟩ := hks.get k (by omega) hkn
   have hv : ((A.cells[i]).kids.map vi)[0 + ((k : Nat) : Int).toNat * 1]? = some (vi q) := by
    rw [Nat.zero_add, Int.toNat_natCast, Nat.mul_one, List.getElem?_map, List.getElem?_eq_getElem (by omega), hq]; rfl
   have hbk := kid_sz hkn
   have htk : nd.kids.take (k + 1) = nd.kids.take k ++ [nd.kids[k]] := take1 _ _ hkn
   refine jS (jy rfl rfl (jM (jB (jF (jV (jA (jB (WC.block (jS (jm (jZ rfl rfl) (jm (Val.loadS rfl (Rd.row1 5 i rfl hrow hv)) ?_)))))))))))
   refine jf rfl (jM (j8 8 [8] rfl (jT 0 rfl (jn rfl) (jT 1 rfl (jp 0 rfl rfl rfl) (jT 2 rfl (Val.moveP rfl) (jT 3 rfl (Val.moveI rfl) (j5 4 rfl (WL.callR [1, 1, 1, 1, 1] rfl rfl rfl (ih _ (kid_lt hs hkn) _ _ _ (by omega) htq) rfl ?_))))))))
   rintro v I2 hI2 ⟨kw, rfl, hw, hiw⟩
   have hw0 := hw
   obtain ⟨a3, c3, rfl⟩ := hw.sl
   refine jC (j9 [8] (hI2) rfl (j5 5 rfl (WL.buildSlice (by with_unfolding_all exact rfl) rfl (by with_unfolding_all exact rfl) rfl (fun _ => ?_))))
   rename_i g7
   refine jW ?_
   refine jC (j9 [8] (hI2) rfl (j5 6 rfl (WL.appOne (y := nd.kids[k]) (cs := [vi nd.kids[k].id, .bool nd.kids[k].grp, .slice a3 nd.kids[k].kids.length c3]) 9 10 rfl rfl (hp.mono hI2) rfl rfl (Nd.rep_iff.2 ⟨hiw, _, rfl, hw⟩) rfl rfl (by rfl) (by decide) (by rw [hwl]; omega) (by rw [hwl]; unfold maxLen; omega) rfl fun aa cc p' hp' => ?_)))
   refine WL.nSet ?_
   refine jC (j9 [8] (hI2) rfl (jT 7 rfl (jn rfl) (j5 8 rfl (WL.stS 8 rfl rfl rfl rfl ?_))))
   refine jC (WK.anyLast (WA.done (by kernel_rfl) (WX.inNormal (jA (jD (jX rfl rfl (ja rfl (jC ?_))))))))
   rw [hwl] at hp' ⊢
   exact WX.conv (fun w h => h.sub [0, 0, 0, 0, 0, 0, 0, 0, 0, 0] rfl) (WX.thenK (WK.round (nd.kids.length - (k + 1)) (by omega) ⟨k + 1, aa, cc, p', rfl, by omega, hI.trans hI2, rfl, rfl, rfl, rfl, rfl, rfl, rfl, by rw [htk]; exact hp'⟩))
  ·skip
   refine jS (jx rfl rfl (jM (jB (jE (WC.exit (WX.thenExit (WX.thenExit (WX.inHit (jK (jm (jt 8 rfl rfl rfl) (WL.stA 6 rfl rfl rfl rfl ?_)))))))))))
   refine jM (jR (WX.freezeL 9 rfl hp fun I2 hI2 hv => ?_))
   have hJ := hI.trans hI2
   refine jP [0, 0, 0, 0, 0] (jr1 rfl (jcL 6 rfl rfl rfl)) ?_
   have : k = nd.kids.length := by omega
   subst this
   rw [List.take_length] at hv
   exact ⟨rfl, .slice a nd.kids.length c, rfl, hv, hI64⟩
theorem tNodeI (A : Ar) (i : Int) (nd : Nd) (I : Mem) (hA : A.Ok) (hb : nd.size ≤ 1000000000) (hn : ∀ n : Nat, A.at_ i = some (n : Int) → ∃ p, Tr A p n nd) :
  Ctr Tryz.prog 29 [ptr A.b, vi i] I A.hp (KeepR A.hp fun v I' => ∃ nv, v = .tuple #[nv, .bool (A.at_ i).isSome] ∧ NdAt (if (A.at_ i).isSome then nd else Nd.zero) nv I') := by
 refine Ctr.intro Tryz.func29 rfl rfl rfl fun E F => ?_
 refine jS (WL.alloc rfl (fun _ => ?_))
 refine jW ?_
 refine jg rfl (jN (jd rfl (ja rfl (WL.callK [1, 1, 1, 1, 1] rfl rfl rfl (tFind A i _) rfl ?_))))
 rintro _ rfl
 cases hat : A.at_ i with
 | none =>
  refine je rfl (jm (jq rfl rfl) (jm (Val.extractB rfl rfl) (jf rfl (jg rfl (jM (jB (jS (jb rfl (jl rfl (jM (jF (jS (jm (Val.build0) ?_)))))))))))))
  refine WL.stA 6 rfl rfl rfl rfl ?_
  refine jg rfl (jM (jR (jU ?_)))
  exact jP [0, 0, 0, 0, 0] (jr2 rfl (jcL 6 rfl rfl rfl) (jtB rfl)) ⟨rfl, _, rfl, _, rfl, LsAt.nil _ _, i64_0⟩
 | some p =>
  obtain ⟨n, rfl, hn'⟩ := hA.at_lt i p hat
  obtain ⟨pp, ht⟩ := hn n hat
  simp only [Option.getD_some, Option.isSome_some, if_true]
  refine je rfl (jm (jq rfl rfl) (jm (Val.extractB rfl rfl) (jf rfl (jg rfl (jM (jB (jS (jb rfl (jl rfl (jM (jE (jV (jK (jd rfl (ja rfl (WL.callR [1, 1, 1, 1, 1] rfl rfl rfl (tNode A hA _ nd (Nat.le_refl _) _ _ _ hb ht) rfl ?_))))))))))))))))
  rintro v I2 hI2 ⟨kw, rfl, hw, hiw⟩
  have hw0 := hw
  obtain ⟨a3, c3, rfl⟩ := hw.sl
  refine WL.stA 6 rfl rfl rfl rfl ?_
  refine jg rfl (jM (jR ?_))
  exact jP [0, 0, 0, 0, 0] (jr2 rfl (jcL 6 rfl rfl rfl) (jtB rfl)) ⟨rfl, _, rfl, _, rfl, hw, hiw⟩
instance : OvK Tryz.prog 165 31 := ⟨_, 4, rfl, by kernel_rfl, by kernel_rfl, by kernel_rfl, by kernel_rfl⟩
def PosP (x : Int) (xs : List Int) : Value → Prop := fun v => (∃ k : Nat, v = vi k ∧ xs[k]? = some x ∧ x ∉ xs.take k) ∨ (v = vi (-1) ∧ x ∉ xs)
theorem sIndex (x : Int) (xs : List Int) (v : Value) (I : Mem) (hl : xs.length ≤ 1099511627776) :
  Ctr Tryz.prog 167 [v, vi x] I [sl 3 1 v xs.length (xs.map vi)] (Keep I [sl 3 1 v xs.length (xs.map vi)] (PosP x xs)) := by
 refine Ctr.intro Tryz.func167 rfl rfl rfl fun E F => ?_
 refine WC.slOpen 1 rfl fun aa cap hv hg hc => ?_
 subst hv
 refine jS (jf rfl (jM (jB (jS (jc rfl (jm (jo rfl) (ja rfl (jM (WC.block ?_)))))))))
 refine WC.loop (fun n ρ' I' L' => ∃ k : Nat, n = xs.length - k ∧ k ≤ xs.length ∧ I' = I ∧ ρ' 0 = .slice aa xs.length cap ∧ ρ' 1 = vi x ∧ ρ' 7 = vi xs.length ∧ ρ' 8 = vi k ∧ L' = [F, sl 3 1 (.slice aa xs.length cap) xs.length (xs.map vi)] ∧ x ∉ xs.take k)
  xs.length ⟨0, rfl, by omega, rfl, rfl, rfl, rfl, rfl, rfl, by simp⟩ ?_
 rintro n ρ' I0 L' ⟨k, rfl, hk, rfl, h0, h1, h7, h8, rfl, hnot⟩
 refine ju4 h8 h7 h1 h0 ?_
 by_cases hkn : k < xs.length
 ·obtain ⟨g, rfl⟩ := hg (by omega)
  have hget : (xs.map vi)[0 + (k : Int).toNat * 1]? = some (vi xs[k]) := by simp [hkn]
  have htk := take1 xs k hkn
  have hk? : xs[k]? = some xs[k] := List.getElem?_eq_getElem hkn
  generalize xs[k] = y at *
  by_cases hxy : x = y
  ·subst hxy
   refine jS (jy rfl rfl (jM (jB (jF (jV (jA (jB (WC.block (jS (ja rfl (jf rfl (jN (ja rfl (jc rfl (ja rfl (jm (jZ rfl rfl) (jm (Val.loadS rfl (Rd.sl1 1 rfl (by assumption))) ?_)))))))))))))))))
   refine jw rfl rfl (jM (jF (jS (ja rfl (jf rfl (jM (jR (WX.inRet (jU (jU (WX.inRet (jU ?_))))))))))))
   exact jP [0] (jr1 rfl (jtI rfl)) ⟨rfl, rfl, .inl ⟨k, rfl, hk?, hnot⟩⟩
  ·skip
   refine jS (jy rfl rfl (jM (jB (jF (jV (jA (jB (WC.block (jS (ja rfl (jf rfl (jN (ja rfl (jc rfl (ja rfl (jm (jZ rfl rfl) (jm (Val.loadS rfl (Rd.sl1 1 rfl (by assumption))) ?_)))))))))))))))))
   refine jv rfl rfl (jM (jE (jV (WX.inNormal (jA (jD (jX rfl rfl (ja rfl (jC ?_)))))))))
   refine WX.thenK (WK.round (xs.length - (k + 1)) (by omega) ⟨k + 1, rfl, by omega, rfl, rfl, rfl, rfl, rfl, rfl, ?_⟩)
   rw [htk]
   intro hm
   rcases List.mem_append.1 hm with hm | hm
   ·exact hnot hm
   ·exact hxy (List.mem_singleton.1 hm)
 ·have : k = xs.length := by omega
  rw [this, List.take_length] at hnot
  refine jS (jx rfl rfl (jM (jB (jE (WC.exit (WX.thenExit (WX.thenExit (WX.inHit (jK (jf rfl (jM (jR ?_))))))))))))
  exact jP [0] (jr1 rfl (jtI rfl)) ⟨rfl, rfl, .inr ⟨rfl, hnot⟩⟩
theorem all_vi (l : List Int) : (l.map vi).all Value.oneCell' = true := by
 rw [List.all_eq_true]
 intro v hv
 obtain ⟨x, _, rfl⟩ := List.mem_map.1 hv
 rfl
theorem sInsert (xs ys : List Int) (i : Nat) (s v : Value) (I : Mem) (hi : i ≤ xs.length) (hm : 0 < ys.length) (hl : xs.length + ys.length ≤ 1099511627776) :
  Ctr Tryz.prog 144 [s, vi i, v] I [sl 3 1 s xs.length (xs.map vi), sl 3 1 v ys.length (ys.map vi)]
   (fun r I' L' => I' = I ∧ L' = [sl 3 1 r (xs.length + ys.length) ((xs.take i ++ ys ++ xs.drop i).map vi), sl 3 1 v ys.length (ys.map vi)]) := by
 refine Ctr.intro Tryz.func144 rfl rfl rfl fun E F => ?_
 refine WC.slOpen 1 rfl fun sa sc hs hsg hsc => ?_
 subst hs
 refine WC.slOpen 2 rfl fun va vc hv hvg hvc => ?_
 subst hv
 obtain ⟨vg, rfl⟩ := hvg hm
 refine jS (jh rfl (jN (jc rfl (ja rfl (jm (Val.slice (l := i) rfl (.some (e := (i : Int)) rfl (Int.natCast_nonneg i)) (.none _) hi hsc) ?_)))))
 by_cases hin : i = xs.length
 ·skip
  refine jN (jc rfl (jm (jo rfl) (jf rfl (jM (jB (jS (ja rfl (jv rfl rfl (jM (jE (jV (jK (jc rfl (jm (jo rfl) (jf rfl (jM (jB (jS (ja rfl (ja rfl (jw rfl rfl (jM (jF (jS (jc rfl (jc rfl (WL.append 1 rfl rfl rfl (Rd.slN 2 rfl 0 (ys.map vi) (fun j v h => by rw [Nat.zero_add]; exact h)) (by rw [List.length_map, Nat.mul_one]) (all_vi ys) rfl (by decide) hm (by omega) (by unfold maxLen; omega) rfl fun g cap => ?_)))))))))))))))))))))))))))
  refine WL.nSet ?_
  refine jh rfl (jM (jR (jU ?_)))
  refine jP [0, 0] (jr1 rfl (jtS rfl)) ?_
  refine ⟨rfl, ?_⟩
  rw [hin, List.take_length, List.drop_length, List.append_nil, List.map_append]
 obtain ⟨sg, rfl⟩ := hsg (by omega)
 have hmin : (i : Int) ≠ xs.length := by omega
 have hml : ((xs.drop i).map vi).length = xs.length - i := by rw [List.length_map, List.length_drop]
 have hil := fun C => ins_list (C := C) (xs := xs.map vi) (ys := ys.map vi) (i := i) (n := xs.length) (m := ys.length)
 have hres : (xs.map vi).take i ++ ys.map vi ++ (xs.map vi).drop i = (xs.take i ++ ys ++ xs.drop i).map vi := by
  simp only [List.map_append, List.map_take, List.map_drop]
 by_cases hroom : sc < xs.length + ys.length
 ·skip
  refine jN (jc rfl (jm (jo rfl) (jf rfl (jM (jB (jS (ja rfl (jv rfl rfl (jM (jE (jV (jK (jc rfl (jm (jo rfl) (jf rfl (jM (jB (jS (ja rfl (ja rfl (jv rfl rfl (jM (jE (jV (jA (jB (jS (ja rfl (ja rfl (jX rfl rfl (jc rfl (jm (Val.cap rfl) ?_))))))))))))))))))))))))))))))))
  refine jO rfl rfl (jM (jF (jS (jc rfl (ja rfl (jm (Val.sliceTo rfl rfl (by omega)) ?_))))))
  refine ja rfl (ja rfl (jX rfl rfl (ja rfl (jm (Val.sub rfl rfl (wrap_i64 (by omega) (by omega))) ?_))))
  refine WL.slOut 1 rfl fun cs k1 k2 k3 k4 => ?_
  refine WL.nSet ?_
  have hcs : ∀ q u, (xs.map vi)[q]? = some u → cs[q]? = some u := fun q u h => by
   rw [← k2, List.getElem?_take] at h
   split at h
   ·exact h
   ·cases h
  refine WL.appZeros (q := xs.length + ys.length - i) 1 rfl rfl (by show vi _ = vi _; congr 1; omega) (by omega) (by omega) (by omega) (by omega) rfl fun g2 cap2 hc2 hm2 => ?_
  refine jW ?_
  have hq : i + (xs.length + ys.length - i) = xs.length + ys.length := by omega
  rw [hq] at hc2 ⊢
  have hCl : (cs.take i ++ List.replicate (xs.length + ys.length - i) (vi 0) ++ List.replicate (cap2 - (xs.length + ys.length)) (vi 0)).length = cap2 := by
   simp only [List.length_append, List.length_take, List.length_replicate]; omega
  have hp : (cs.take i ++ List.replicate (xs.length + ys.length - i) (vi 0) ++ List.replicate (cap2 - (xs.length + ys.length)) (vi 0)).take i = (xs.map vi).take i := by
   rw [List.append_assoc, List.take_append_of_le_length (by rw [List.length_take]; omega), List.take_take, Nat.min_self, ← k2, List.take_take, Nat.min_eq_left (by omega)]
  generalize cs.take i ++ List.replicate (xs.length + ys.length - i) (vi 0) ++ List.replicate (cap2 - (xs.length + ys.length)) (vi 0) = C at *
  have hfin := (hil C (by simp) (by simp) hi (by omega) hp).2
  refine jh rfl (jN (jc rfl (ja rfl (jm (Val.sliceFrom rfl rfl (by omega) (by omega) (by omega)) ?_))))
  refine jc rfl (WL.copyRd 3 rfl rfl rfl (Rd.slN 2 rfl 0 (ys.map vi) (fun j u h => by rw [Nat.zero_add]; exact h)) (by rw [List.length_map]; exact (Nat.min_eq_left (by omega)).symm) (all_vi ys) (by rw [List.length_map]; omega) rfl ?_)
  refine WL.nSet ?_
  refine jM (jB (j8 999 [] rfl (jT 0 rfl (Val.moveS rfl) (jT 1 rfl (Val.moveI rfl) (jT 2 rfl (Val.moveI rfl) (jT 3 rfl (Val.add rfl rfl (wrap_i64 (by omega) (by omega))) ?_))))))
  refine jT 4 rfl (Val.sliceFrom (m := i + ys.length) rfl rfl (by omega) (by omega) (by omega)) ?_
  refine jT 5 rfl (Val.moveS rfl) (jT 6 rfl (Val.moveI rfl) (jT 7 rfl (Val.sliceFrom (m := i) rfl rfl (by omega) (by omega) (by omega)) ?_))
  refine j5 8 rfl ?_
  refine WL.copyRd (ys := (xs.drop i).map vi) 3 rfl rfl rfl (Rd.own 1 rfl _ _ (fun j u h => by
   rw [List.map_drop, List.getElem?_drop] at h
   rw [Nat.zero_add, Nat.mul_one]
   exact hcs _ _ h)) (by rw [hml]; exact (Nat.min_eq_left (by omega)).symm) (all_vi _) (by rw [hml, splice_length (by rw [List.length_map]; omega)]; omega) rfl ?_
  refine WL.nSet ?_
  refine jC (j7 [] rfl (j6 (jK (jc rfl (jh rfl (jM (jR (jU (WX.slIn (xs := (xs.take i ++ ys ++ xs.drop i).map vi) (sz := 1) (n := xs.length + ys.length) (cap := cap2) 3 rfl (by rw [splice_length (by rw [hml, splice_length (by rw [List.length_map]; omega)]; omega), splice_length (by rw [List.length_map]; omega)]; omega) (by omega) hm2 (by rw [← hres, Nat.mul_one, ← hfin]; simp only [Nat.zero_add, Nat.mul_one, List.map_drop]) ?_)))))))))
  exact jP [2, 1] (jr1 rfl (jtS rfl)) ⟨rfl, rfl⟩
 ·skip
  refine jN (jc rfl (jm (jo rfl) (jf rfl (jM (jB (jS (ja rfl (jv rfl rfl (jM (jE (jV (jK (jc rfl (jm (jo rfl) (jf rfl (jM (jB (jS (ja rfl (ja rfl (jv rfl rfl (jM (jE (jV (jA (jB (jS (ja rfl (ja rfl (jX rfl rfl (jc rfl (jm (Val.cap rfl) ?_))))))))))))))))))))))))))))))))
  refine jL rfl rfl (jM (jE (jV (jK (jc rfl (ja rfl (ja rfl (jX rfl rfl (jm (Val.sliceTo (m := xs.length + ys.length) rfl rfl (by omega)) ?_)))))))))
  refine jh rfl (jM (jB (jS (jc rfl (jc rfl (ja rfl (ja rfl (jX rfl rfl (jm (Val.sliceFrom (m := i + ys.length) rfl rfl (by omega) (by omega) (by omega)) ?_)))))))))
  refine WL.slOut 1 rfl fun cs k1 k2 k3 k4 => ?_
  refine WL.nSet ?_
  refine WL.slOut 2 rfl fun ds j1 j2 j3 j4 => ?_
  refine WL.nSet ?_
  have hcs : ∀ q u, (xs.map vi)[q]? = some u → cs[q]? = some u := fun q u h => by
   rw [← k2, List.getElem?_take] at h
   split at h
   ·exact h
   ·cases h
  have hds : ∀ q u, (ys.map vi)[q]? = some u → ds[q]? = some u := fun q u h => by
   rw [← j2, List.getElem?_take] at h
   split at h
   ·exact h
   ·cases h
  refine jm (Val.overlaps 2 1 rfl rfl rfl rfl rfl (by decide) (by omega)) ?_
  have hp : cs.take i = (xs.map vi).take i := by rw [← k2, List.take_take, Nat.min_eq_left (by omega)]
  have hfin := (hil cs (by simp) (by simp) hi (by omega) hp).1
  refine jl rfl (jM (jF (jB (j8 999 [] rfl (jT 0 rfl (Val.moveS rfl) (jT 1 rfl (Val.moveI rfl) (jT 2 rfl (Val.moveI rfl) (jT 3 rfl (Val.add rfl rfl (wrap_i64 (by omega) (by omega))) ?_))))))))
  refine jT 4 rfl (Val.sliceFrom (m := i + ys.length) rfl rfl (by omega) (by omega) (by omega)) ?_
  refine jT 5 rfl (Val.moveS rfl) (jT 6 rfl (Val.moveI rfl) (jT 7 rfl (Val.sliceFrom (m := i) rfl rfl (by omega) (by omega) (by omega)) ?_))
  refine j5 8 rfl ?_
  refine WL.copyRd (ys := (xs.drop i).map vi) 1 rfl rfl rfl (Rd.own 1 rfl _ _ (fun j u h => by
   rw [List.map_drop, List.getElem?_drop] at h
   rw [Nat.zero_add, Nat.mul_one]
   exact hcs _ _ h)) (by rw [hml]; show _ = min _ _; omega) (all_vi _) (by rw [hml]; omega) rfl ?_
  refine WL.nSet ?_
  refine jC (j7 [] rfl (j6 (jK (jc rfl (ja rfl (jm (Val.sliceFrom (m := i) rfl rfl (by omega) (by omega) (by omega)) ?_))))))
  refine jc rfl (WL.copyRd (ys := ys.map vi) 1 rfl rfl rfl (Rd.own 2 rfl _ _ (fun j u h => by rw [Nat.zero_add]; exact hds _ _ h)) (by rw [List.length_map]; exact (Nat.min_eq_left (by omega)).symm) (all_vi ys) (by rw [List.length_map, splice_length (by rw [hml]; omega)]; omega) rfl ?_)
  refine WL.nSet ?_
  refine jN (jc rfl (jh rfl (jM (jR (jU (WX.slIn (xs := (xs.take i ++ ys ++ xs.drop i).map vi) (sz := 1) (n := xs.length + ys.length) (cap := sc) 1 rfl (by rw [splice_length (by rw [List.length_map, splice_length (by rw [hml]; omega)]; omega), splice_length (by rw [hml]; omega)]; omega) (by omega) k4 (by rw [← hres, Nat.mul_one, ← hfin]; simp only [Nat.zero_add, Nat.mul_one, List.map_drop]) ?_))))))
  refine WX.slIn (xs := ys.map vi) (sz := 1) (n := ys.length) (cap := vc) 2 rfl j1 j3 j4 j2 ?_
  exact jP [0, 0] (jr1 rfl (jtS rfl)) ⟨rfl, rfl⟩
theorem sDelete (xs : List Int) (i j : Nat) (s : Value) (I : Mem) (hij : i < j) (hj : j ≤ xs.length) (hl : xs.length ≤ 1099511627776) :
  Ctr Tryz.prog 168 [s, vi i, vi j] I [sl 3 1 s xs.length (xs.map vi)]
   (fun r I' L' => I' = I ∧ L' = [sl 3 1 r (i + (xs.length - j)) ((xs.take i ++ xs.drop j).map vi)]) := by
 refine Ctr.intro Tryz.func168 rfl rfl rfl fun E F => ?_
 refine WC.slOpen 1 rfl fun sa sc hs hsg hsc => ?_
 subst hs
 obtain ⟨sg, rfl⟩ := hsg (by omega)
 refine jS (jh rfl (jN (jc rfl (ja rfl (ja rfl (jc rfl (jm (jo rfl) (jm (Val.slice3L (l := i) (h := j) (m := xs.length) rfl rfl rfl rfl (by omega) (by omega) (by omega)) ?_))))))))
 refine WL.slOut 1 rfl fun cs k1 k2 k3 k4 => ?_
 refine WL.nSet ?_
 have hcs : ∀ q u, (xs.map vi)[q]? = some u → cs[q]? = some u := fun q u h => by
  rw [← k2, List.getElem?_take] at h
  split at h
  ·exact h
  ·cases h
 have hml : ((xs.drop j).map vi).length = xs.length - j := by rw [List.length_map, List.length_drop]
 have hp : cs.take i = (xs.map vi).take i := by rw [← k2, List.take_take, Nat.min_eq_left (by omega)]
 refine jM (jB (jS (ja rfl (ja rfl (jv rfl rfl (jM (jE (jV (jK (jc rfl (jm (jo rfl) (jf rfl (jM (jB (j8 999 [] rfl (jT 0 rfl (Val.moveS rfl) (jT 1 rfl (Val.moveI rfl) (jT 2 rfl (Val.sliceTo (m := i) rfl rfl (by omega)) ?_))))))))))))))))))
 refine jT 3 rfl (Val.moveS rfl) (jT 4 rfl (Val.moveI rfl) (jT 5 rfl (Val.sliceFrom2 (m := j) rfl rfl (by omega) (by omega)) ?_))
 refine j5 6 rfl ?_
 refine WL.appRoom (ys := (xs.drop j).map vi) (m := xs.length - j) 1 rfl rfl rfl (Rd.own 1 rfl _ _ (fun q u h => by
  rw [List.map_drop, List.getElem?_drop] at h
  have hlt : j + q < xs.length := by
   rcases Nat.lt_or_ge (j + q) xs.length with h' | h'
   ·exact h'
   ·rw [List.getElem?_eq_none (by rw [List.length_map]; omega)] at h; cases h
  rw [if_neg (by omega), Nat.zero_add, Nat.mul_one]
  exact hcs _ _ h)) hml (all_vi _) (by omega) (by omega) rfl ?_
 refine WL.nSet ?_
 refine jC (j7 [] rfl (jT 7 rfl (Val.assignS rfl) (j6 (jK (jc rfl (jc rfl (jm (jo rfl) (ja rfl (jm (Val.sliceMid (l := i + (xs.length - j)) (h := xs.length) rfl rfl rfl (by omega) (by omega)) ?_)))))))))
 rw [if_neg (show ¬ sc = i + (xs.length - j) by omega)]
 refine WL.clearB 1 rfl rfl rfl (by rw [splice_length (by rw [hml]; omega)]; omega) ?_
 refine WL.nSet ?_
 refine jN (jc rfl (jh rfl (jM (jR ?_))))
 refine WX.slIn (xs := (xs.take i ++ xs.drop j).map vi) (sz := 1) (n := i + (xs.length - j)) (cap := sc) 1 rfl (by rw [splice_length (by rw [List.length_replicate, splice_length (by rw [hml]; omega)]; omega), splice_length (by rw [hml]; omega)]; omega) (by omega) k4 (by
  rw [splice_lo (by omega) (by rw [splice_length (by rw [hml]; omega)]; omega), Nat.mul_one, ← hml, splice_cut (by omega), hp, List.map_append, List.map_take]) ?_
 exact jP [0] (jr1 rfl (jtS rfl)) ⟨rfl, rfl⟩
end Go.Proofs.YtggcpoleklcmkaaGreatDoor
