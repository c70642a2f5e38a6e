/-
 copy(d, s) into a box of one's own, elements of several cells.
-/
import Derived.Test.YtggcpoleklcmkaaGreatDoorX3
import Derived.Laws.CopyRow
import Derived.Laws.Externs
import Derived.Test.YtggcpoleklcmkaaGreatDoorX2
import Derived.Deep.AppendSrc
import Derived.Test.YtggcpoleklcmkaaGreatDoorProg
set_option linter.unusedVariables false
set_option linter.unusedSimpArgs false
set_option maxRecDepth 100000
set_option maxHeartbeats 8000000
namespace Go.Sl
open Go
theorem run_copy_rowN {P : Program} (w : World) (dT sT ty elem : TypeId) (g o dLen dCap sz : Nat) (a : Addr) (sLen sCap : Nat) (cur : Array Value) (t : TypeId) (cs : List Value)
  (hu : P.underlying dT = some (.slice elem)) (hs : (P.info? elem).map (·.size) = some sz)
  (hg : w.heap[g]? = some (.cells cur t (0, 0))) (hn : cs.length = Nat.min sLen dLen * sz)
  (hsrc : ∀ j v, cs[j]? = some v → w.cell? (a.add j) = some v) (hfit : o + cs.length ≤ cur.size) (h1 : ∀ v ∈ cs, v.oneCell' = true) :
  (Builtin.copy_ #[dT, sT] ty #[.slice (some ⟨g, o, none⟩) dLen dCap, .slice (some a) sLen sCap]).run P w =
   .ok (goInt (Nat.min sLen dLen)) (w.setRow g (cur.toList.take o ++ cs ++ cur.toList.drop (o + cs.length)).toArray) := by
 have hl := run_loadCells_list (P := P) w a cs hsrc
 have hst := run_storeCells_at P g o t cs 0 cur w hg (by simpa using hfit) h1
 cases hq : P.info? elem with
 | none => simp [hq] at hs
 | some i =>
  have hi : i.size = sz := by simpa [hq] using hs
  simp [Builtin.copy_, run_underlying hu, Builtin.lenOf, Builtin.firstCells, Go.sizeOf, typeInfo, hq, hi, ← hn, hl, hst]
section
variable {Γ : Cx} {ops : Array Oper} {rest : List Oper} {ρ : Nat → Value} {I : Mem} {L : List HP} {Q : Post} {ty : TypeId} {ps : String} {af : Array Edge}
theorem WL.copyN {d t e sz g o dn dc n c b off bt m : Nat} {x y : Operand} {cs ys : List Value} (k : Nat) [hk : SlK Γ.P t e sz] (hx : ev ρ x = .slice (some ⟨g, o, none⟩) dn dc) (hL : L[k]? = some (Sl.box g bt cs)) (hy : ev ρ y = .slice (some ⟨b, off, none⟩) n c)
  (hr : Rd I L b off ys) (hm : Nat.min n dn = m) (hn : ys.length = m * sz) (h1 : ys.all Value.oneCell' = true) (hfit : o + ys.length ≤ cs.length) (hd : Nat.blt d Γ.n = true)
  (next : WL Γ ops rest (upd ρ d (.int .i64 m)) I (L.set k (Sl.box g bt (splice cs o ys))) Q) :
  WL Γ ops ({ dst := some d, op := .call { callee := .builtin .copy, args := #[x, y], argTypes := #[t, t] }, type := ty, pos := ps, after := af, guard := none } :: rest) ρ I L Q :=
 WL.eff (fun w hw => by
  obtain ⟨hu, ie, hie, hsz⟩ := SlK.und hk.is
  have hg := hw.lookK hL
  have := run_copy_rowN (P := Γ.P) w t t ty e g o dn dc sz ⟨b, off, none⟩ n c cs.toArray bt ys hu (by rw [hie]; simp [hsz]) hg (by rw [hm]; exact hn) (fun j u hj => by
   rw [addr_add]; exact hr Γ.E w hw j u hj) (by simpa using hfit) (fun v hv => List.all_eq_true.1 h1 v hv)
  rw [hm] at this
  refine ⟨_, ?_, setRow_sat hw hL (splice cs o ys)⟩
  simp only [execOp, resolve, List.map_toArray, List.map_cons, List.map_nil, hx, hy, pure_bind, invoke, builtin, Sem.run_bind, this, Result.andThen_ok]
  simp [splice, goInt]) hd next
theorem Rd.all {b ty : Nat} {cs : List Value} (k : Nat) (hk : L[k]? = some (Sl.box b ty cs)) : Rd I L b 0 cs := Rd.own k hk 0 cs fun j v h => by rw [Nat.zero_add]; exact h
theorem WL.stG {t b off n bt : Nat} {g : Bool} {x y : Operand} {cs cs' : List Value} {L' : List HP} {vs : List Value} (k : Nat) [hk : TyK Γ.P t g n] (hx : ev ρ x = .pointer (some ⟨b, off, none⟩)) (hL : L[k]? = some (Sl.box b bt cs)) (hy : ev ρ y = .agg vs.toArray)
  (hn : vs.length = n) (h1 : vs.all Value.oneCell' = true) (hf : off + n ≤ cs.length) (he : splice cs off vs = cs') [h2 : SetL L k (Sl.box b bt cs') L'] (next : WL Γ ops rest ρ I L' Q) :
  WL Γ ops ({ dst := none, op := .store t x y, type := ty, pos := ps, after := af, guard := none } :: rest) ρ I L Q :=
 WL.store k hx hL (by
  rw [hy, storeOk, Bool.and_eq_true, Bool.and_eq_true]
  exact ⟨⟨by show Nat.beq vs.length n = true; rw [hn]; exact Nat.beq_refl n, h1⟩, Nat.ble_eq_true_of_le (by show off + vs.length ≤ _; omega)⟩) (by rw [hy]; show WL Γ ops rest ρ I (L.set k (Sl.box b bt (splice cs off vs))) Q; rw [he, h2.is]; exact next)
end
end Go.Sl

namespace Go.Sl
open Go.Ls Go.MapKept
class ClK (P : Program) (f : FuncId) : Prop where
 is : ∃ fn, P.funcs[f]? = some fn ∧ (fn.name == "runtime.NumGoroutine") = false ∧ fn.body.isNone = true ∧ Extern.findNext fn = none ∧ Extern.find fn = some Extern.MapsClone.clone
section
variable {Γ : Cx} {ops : Array Oper} {rest : List Oper} {ρ : Nat → Value} {I : Mem} {L : List HP} {Q : Post} {ty : TypeId} {ps : String} {af : Array Edge}
theorem Val.mapIface {t : Nat} {z : Value} {x : Operand} {b : Option Nat} [hk : MapK Γ.P t z] (hx : ev ρ x = .map b) : Val Γ ρ I L (.makeInterface t x) ty (.iface t (.map b)) := fun w hw => by
 obtain ⟨kt, e, hm, hd, hz⟩ := MapK.und hk.is
 simp only [execOp, hx, Instr.makeInterface, Sem.run_bind, run_underlying hm, Result.andThen_ok]
 rfl
theorem Val.mapAssert {t it : Nat} {z : Value} {x : Operand} {b : Option Nat} [hk : MapK Γ.P t z] (hx : ev ρ x = .iface t (.map b)) : Val Γ ρ I L (.typeAssert x it t false) ty (.map b) := fun w hw => by
 obtain ⟨kt, e, hm, hd, hz⟩ := MapK.und hk.is
 simp only [execOp, hx, Instr.typeAssert, Sem.run_bind, run_underlying hm, Result.andThen_ok, if_true]
 rfl
theorem run_eqNilM {P : Program} {t k e : Nat} (hu : P.underlying t = some (.map k e)) (a : Option Nat) (w : World) : (Op.equal t (.map a) (.map none)).run P w = .ok a.isNone w := by
 unfold Op.equal Op.maxDepth
 show (Op.equalIn (9999 + 1) t (.map a) (.map none)).run P w = _
 unfold Op.equalIn
 cases a <;> (simp only [Sem.run_bind, run_underlying hu, Result.andThen_ok]; rfl)
theorem Val.mapNil {t t' : Nat} {z : Value} {x : Operand} {b : Nat} [hk : MapK Γ.P t z] (hx : ev ρ x = .map (some b)) : Val Γ ρ I L (.binOp .eql t x (.const (.map none)) t') ty (.bool false) := fun w hw => by
 obtain ⟨kt, e, hm, hd, hz⟩ := MapK.und hk.is
 simp only [execOp, hx]
 simp [eqGuard, binOp, run_eqNilM hm, ev]
 all_goals rfl
theorem WL.cloneMap {d n : Nat} {f : FuncId} {t b : Nat} {fx x : Operand} {ats : Array TypeId} {g : Int → Option Value} (k : Nat) [hf : ClK Γ.P f] (hfx : ev ρ fx = .func (.func f) #[] #[]) (hx : ev ρ x = .iface t (.map (some b))) (hL : L[k]? = some (mp b g n)) (hd : Nat.blt d Γ.n = true)
  (next : ∀ b', WL Γ ops rest (upd ρ d (.iface t (.map (some b')))) I (L ++ [mp b' g n]) Q) : WL Γ ops ({ dst := some d, op := .call { callee := .value fx, args := #[x], argTypes := ats }, type := ty, pos := ps, after := af, guard := none } :: rest) ρ I L Q :=
 WL.effX (fun w hw => by
  obtain ⟨fn, h1, h2, h3, h4, h5⟩ := hf.is
  obtain ⟨a, c, hs, hM, hb⟩ := hw.mpLook k hL
  have e : Extern.MapsClone.clone #[.iface t (.map (some b))] = (getObj b >>= fun o => match o with
   | .map entries clock => (newObj (.map entries clock) >>= fun n => pure (.iface t (.map (some n))))
   | _ => stuck "maps.clone: a map expected") := rfl
  have hrun : (Extern.MapsClone.clone #[.iface t (.map (some b))]).run Γ.P w = .ok (.iface t (.map (some w.heap.size))) { w with heap := w.heap.push (.map a c) } := by
   rw [e]
   simp [MapKept.run_getObj_map hb, Result.andThen]
  have h6 := run_callFunc_extern (P := Γ.P) h1 h2 h3 h4 h5 #[.iface t (.map (some b))] w
  rw [hrun] at h6
  have hw1 := hw.alloc (.map a c)
  have hw2 := hw1.mpClose (b := w.heap.size) (f := g) (n := n) L.length (by simp) hs hM
  rw [List.set_append_right _ _ (Nat.le_refl _), Nat.sub_self, List.set_cons_zero] at hw2
  refine ⟨_, _, _, _, ?_, hw2, next _⟩
  simp only [execOp, resolve, hfx, Deferred.ofValue, pure_bind, invoke, List.map_toArray, List.map_cons, List.map_nil, List.append_toArray, List.nil_append, List.append_nil, hx]
  exact h6) hd
end
end Go.Sl

namespace Go.Sl
open Go.Ls
section
variable {Γ : Cx} {ops : Array Oper} {rest : List Oper} {ρ : Nat → Value} {I : Mem} {L : List HP} {Q : Post} {ty : TypeId} {ps : String} {af : Array Edge}
end
theorem picks_head {α : Type} : ∀ A R : List α, picks (List.replicate A.length 0) (A ++ R) = some (A, R)
 | [], _ => rfl
 | a :: A, R => by
  show (match picks (List.replicate A.length 0) (A ++ R) with | none => none | some (xs, r) => some (a :: xs, r)) = _
  rw [picks_head A R]
section
variable {Γ : Cx} {ops : Array Oper} {rest : List Oper} {ρ : Nat → Value} {I : Mem} {L : List HP} {Q : Post} {ty : TypeId} {ps : String} {af : Array Edge}
theorem WL.callSts {d : Nat} {f : FuncId} {x : Operand} {args : List Operand} {ats : Array TypeId} {fs cp vs : List Value} {M : List HP} {R : Value → Mem → List HP → Prop} (k : Nat) [hf : FnK Γ.P f]
  (hx : ev ρ x = .func (.func f) fs.toArray cp.toArray) (hv : fs ++ args.map (ev ρ) ++ cp = vs) (hL : L[k]? = some (sts M)) (hc : Ctr Γ.P f vs I M R) (hd : Nat.blt d Γ.n = true)
  (next : ∀ v I' M', I.le I' → R v I' M' → WL Γ ops rest (upd ρ d v) I' (L.set k (sts M')) Q) :
  WL Γ ops ({ dst := some d, op := .call { callee := .value x, args := args.toArray, argTypes := ats }, type := ty, pos := ps, after := af, guard := none } :: rest) ρ I L Q :=
 WL.conv (fun w hw => (hw.perm (pull k L _ hL)).unfold) (WL.call _ hx hv (picks_head M (L.eraseIdx k)) hc hd fun v I' M' hI hR a w ha hw => next v I' M' hI hR a w ha (by
  have h1 : Sat Γ.E w I' (M' ++ L.eraseIdx k) := hw.perm List.perm_append_comm
  exact (h1.fold M').perm (push_back k L _ _ hL)))
theorem WL.callStsR {d : Nat} {f : FuncId} {x : Operand} {args : List Operand} {ats : Array TypeId} {fs cp vs : List Value} {M : List HP} {R : Value → Mem → Prop} (k : Nat) [hf : FnK Γ.P f]
  (hx : ev ρ x = .func (.func f) fs.toArray cp.toArray) (hv : fs ++ args.map (ev ρ) ++ cp = vs) (hL : L[k]? = some (sts M)) (hc : Ctr Γ.P f vs I M (KeepR M R)) (hd : Nat.blt d Γ.n = true)
  (next : ∀ v I', I.le I' → R v I' → WL Γ ops rest (upd ρ d v) I' L Q) :
  WL Γ ops ({ dst := some d, op := .call { callee := .value x, args := args.toArray, argTypes := ats }, type := ty, pos := ps, after := af, guard := none } :: rest) ρ I L Q :=
 WL.callSts k hx hv hL hc hd fun v I' M' hI ⟨h1, h2⟩ => by
  subst h1
  rw [set_same hL]
  exact next v I' hI h2
theorem WL.callStsK {d : Nat} {f : FuncId} {x : Operand} {args : List Operand} {ats : Array TypeId} {fs cp vs : List Value} {M : List HP} {S : Value → Prop} (k : Nat) [hf : FnK Γ.P f]
  (hx : ev ρ x = .func (.func f) fs.toArray cp.toArray) (hv : fs ++ args.map (ev ρ) ++ cp = vs) (hL : L[k]? = some (sts M)) (hc : Ctr Γ.P f vs I M (Keep I M S)) (hd : Nat.blt d Γ.n = true)
  (next : ∀ v, S v → WL Γ ops rest (upd ρ d v) I L Q) :
  WL Γ ops ({ dst := some d, op := .call { callee := .value x, args := args.toArray, argTypes := ats }, type := ty, pos := ps, after := af, guard := none } :: rest) ρ I L Q :=
 WL.callSts k hx hv hL hc hd fun v I' M' hI ⟨h0, h1, h2⟩ => by
  subst h0 h1
  rw [set_same hL]
  exact next v h2
theorem Sat.splitSts {E : Ev} {w : World} {A B : List HP} (k : Nat) (hL : L[k]? = some (sts (A ++ B))) (h : Sat E w I L) : Sat E w I (L.set k (sts A) ++ [sts B]) := by
 have h1 : Sat E w I ((A ++ B) ++ L.eraseIdx k) := (h.perm (pull k L _ hL)).unfold
 rw [List.append_assoc] at h1
 have h2 : Sat E w I (sts A :: (B ++ L.eraseIdx k)) := h1.fold A
 have h3 : Sat E w I (B ++ (sts A :: L.eraseIdx k)) := h2.perm List.perm_middle.symm
 have h4 := (h3.fold B).perm ((push_back k L _ _ hL).cons _)
 exact h4.perm (List.perm_append_comm (l₁ := [_]))
theorem WL.splitSts {A B : List HP} (k : Nat) (hL : L[k]? = some (sts (A ++ B))) (next : WL Γ ops rest ρ I (L.set k (sts A) ++ [sts B]) Q) : WL Γ ops rest ρ I L Q := fun a w ha hw => next a w ha (hw.splitSts k hL)
end
end Go.Sl

namespace Go.Sl
open Go.Ls
def NewV (I0 I : Mem) (e : Nat) (v : Value) : Prop := ∀ a n cap, v = .slice (some a) n cap → I0 a.block = none ∧ ∃ c, I a.block = some (.cells c e (0, 0))
theorem NewV.mono {I0 I I' : Mem} {e : Nat} {v : Value} (h : NewV I0 I e v) (hI : I.le I') : NewV I0 I' e v := fun a n cap hv => by
 obtain ⟨h1, c, h2⟩ := h a n cap hv
 exact ⟨h1, c, hI _ _ h2⟩
theorem NewV.less {I0 I1 I : Mem} {e : Nat} {v : Value} (h : NewV I1 I e v) (hI : I0.le I1) : NewV I0 I e v := fun a n cap hv => by
 obtain ⟨h1, h2⟩ := h a n cap hv
 refine ⟨?_, h2⟩
 cases hx : I0 a.block with
 | none => rfl
 | some o => rw [hI _ _ hx] at h1; cases h1
theorem NewV.part {I0 I : Mem} {e b o1 o2 n1 n2 c1 c2 : Nat} (h : NewV I0 I e (.slice (some ⟨b, o1, none⟩) n1 c1)) : NewV I0 I e (.slice (some ⟨b, o2, none⟩) n2 c2) := fun a n cap hv => by
 injection hv with hv
 injection hv with hv
 subst hv
 exact h ⟨b, o1, none⟩ _ _ rfl
section
variable {E : Ev} {w : World} {I : Mem} {L : List HP}
theorem Sat.freezeN {e sz n : Nat} {v : Value} {xs : List Value} (h : Sat E w I (sl e sz v n xs :: L)) : ∃ I', I.le I' ∧ Sat E w I' L ∧ SlAt I' v n xs ∧ NewV I I' e v := by
 obtain ⟨m, a, d, m1, m2, e1, e2, e3, ⟨hl, e4⟩, e5⟩ := h.own
 rcases e4 with ⟨rfl, rfl⟩ | ⟨g, cap, cur, rfl, hg, h1, h2, h3, h4⟩
 ·obtain ⟨I', q1, q2, q3⟩ := h.freezeAt
  exact ⟨I', q1, q2, q3, fun a n cap h => by cases h⟩
 ·have hb : Sat E w I (pt g (.cells cur e (0, 0)) :: L) := ⟨h.tape, h.os, h.output, h.imm, m, a, d, m1, m2, e1, e2, e3, hg, e5⟩
  have hI : I g = none := by
   rcases d g with h | h
   ·exact h
   ·rw [e1 _ _ hg] at h; cases h
  refine ⟨_, hb.freeze.2, hb.freeze.1, ⟨some ⟨g, 0, none⟩, cap, rfl, ⟨h1, h2⟩, .inr ⟨g, 0, rfl, cur, e, (0, 0), by simp [Mem.ins], fun j v hj => ?_⟩⟩, fun a n' cap' hv => ?_⟩
  ·rw [← h4, List.getElem?_take] at hj
   split at hj
   ·simpa using hj
   ·cases hj
  ·cases hv
   exact ⟨hI, cur, by simp [Mem.ins]⟩
end
section
variable {Γ : Cx} {ops : Array Oper} {rest : List Oper} {ρ : Nat → Value} {I : Mem} {L : List HP} {Q : Post} {ty : TypeId} {ps : String} {af : Array Edge} {d t : Nat}
theorem WX.freezeN {α : Type} {R : Rep α} [hR : RepMono R] {c : Exit} {e sz : Nat} {v : Value} {l : List α} {p : HP} {L' : List HP} (k : Nat) (hL : L[k]? = some p) (hp : OwnL R e sz I l v p) [hE : EraL L k L'] (next : ∀ I', I.le I' → LsAt R I' l v → NewV I I' e v → WX Γ c ρ I' L' Q) : WX Γ c ρ I L Q := by
 obtain ⟨css, rfl, h2⟩ := hp
 intro a w ha hw
 obtain ⟨I', h1, h3, h4, h5⟩ := (hw.perm (pull k L _ hL)).freezeN
 rw [hE.is] at h3
 exact next I' h1 ⟨css, h4, h2.imp fun a b h => hR.mono h h1⟩ h5 a w ha h3
theorem WL.freezeN {α : Type} {R : Rep α} [hR : RepMono R] {e sz : Nat} {v : Value} {l : List α} {p : HP} {L' : List HP} (k : Nat) (hL : L[k]? = some p) (hp : OwnL R e sz I l v p) [hE : EraL L k L'] (next : ∀ I', I.le I' → LsAt R I' l v → NewV I I' e v → WL Γ ops rest ρ I' L' Q) : WL Γ ops rest ρ I L Q := by
 obtain ⟨css, rfl, h2⟩ := hp
 intro a w ha hw
 obtain ⟨I', h1, h3, h4, h5⟩ := (hw.perm (pull k L _ hL)).freezeN
 rw [hE.is] at h3
 exact next I' h1 ⟨css, h4, h2.imp fun a b h => hR.mono h h1⟩ h5 a w ha h3
end
/-! ### memory of which only the shape is kept -/
theorem Mem.unS {a b : Mem} {k : Nat} {o : Obj} (h : (a.un b) k = some o) : a k = some o ∨ b k = some o := by
 unfold Mem.un at h
 cases ha : a k with
 | none => rw [ha] at h; exact .inr h
 | some x => rw [ha] at h; exact .inl h
theorem Mem.unN {a b : Mem} {k : Nat} (ha : a k = none) (hb : b k = none) : (a.un b) k = none := by unfold Mem.un; rw [ha, hb]; rfl
theorem Mem.unL {a b : Mem} {k : Nat} {o : Obj} (ha : a k = some o) : (a.un b) k = some o := by unfold Mem.un; rw [ha]; rfl
theorem Mem.unR {a b : Mem} {k : Nat} (ha : a k = none) : (a.un b) k = b k := by unfold Mem.un; rw [ha]; rfl
def simO (t : Nat) : Obj → Obj → Prop
 | .cells c e fr, o' => ∃ c', o' = .cells c' e fr ∧ c'.size = c.size ∧ (e = t → c' = c)
 | o, o' => o' = o
theorem simO.refl (t : Nat) (o : Obj) : simO t o o := by
 cases o
 case cells c e fr => exact ⟨c, rfl, rfl, fun _ => rfl⟩
 all_goals rfl
def simM (t : Nat) (J : Mem) : HP := fun m => ∀ b o, J b = some o → ∃ o', m b = some o' ∧ simO t o o'
def Mem.minus (I' I : Mem) : Mem := fun b => match I b with | none => I' b | some _ => none
def Mem.del (J : Mem) (b : Nat) : Mem := fun k => if k = b then none else J k
theorem Mem.minus_at {I' I : Mem} {b : Nat} (h : I b = none) : Mem.minus I' I b = I' b := by unfold Mem.minus; rw [h]
theorem Mem.minus_le {I' I : Mem} {b : Nat} {o : Obj} (h : Mem.minus I' I b = some o) : I b = none ∧ I' b = some o := by
 unfold Mem.minus at h
 split at h
 ·rename_i hb; exact ⟨hb, h⟩
 ·cases h
theorem Sat.thaw {E : Ev} {w : World} {I I' : Mem} {L : List HP} (t : Nat) (hI : I.le I') (h : Sat E w I' L) : Sat E w I (simM t (Mem.minus I' I) :: L) := by
 obtain ⟨m, a, d, hs⟩ := h.own
 refine ⟨h.tape, h.os, h.output, fun b o hb => h.imm b o (hI b o hb), (Mem.minus I' I).un m, fun b o hb => ?_, fun b => ?_, Mem.minus I' I, m, Mem.le_un_left _ _, Mem.le_un_right ?_, ?_, fun b o hb => ⟨o, hb, simO.refl t o⟩, hs⟩
 ·rcases Mem.unS hb with hx | hx
  ·exact h.imm _ _ (Mem.minus_le hx).2
  ·exact a b o hx
 ·cases hx : I b with
  | none => exact .inl rfl
  | some o =>
   right
   have h1 : Mem.minus I' I b = none := by unfold Mem.minus; rw [hx]
   have h2 : m b = none := by
    rcases d b with h | h
    ·rw [hI b o hx] at h; cases h
    ·exact h
   exact Mem.unN h1 h2
 all_goals
  intro b
  cases hx : Mem.minus I' I b with
  | none => exact .inl rfl
  | some o =>
   right
   rcases d b with h | h
   ·rw [(Mem.minus_le hx).2] at h; cases h
   ·exact h
theorem Sat.simOut {E : Ev} {w : World} {I J : Mem} {R : List HP} {t b e : Nat} {c : Array Value} {fr : Nat × Nat} (hJ : J b = some (.cells c e fr)) (h : Sat E w I (simM t J :: R)) :
  ∃ c' : Array Value, c'.size = c.size ∧ (e = t → c' = c) ∧ Sat E w I (pt b (.cells c' e fr) :: simM t (Mem.del J b) :: R) := by
 obtain ⟨m, a, d, m1, m2, h1, h2, h3, h4, h5⟩ := h.own
 obtain ⟨o', q1, c', rfl, q2, q3⟩ := h4 _ _ hJ
 refine ⟨c', q2, q3, ⟨h.tape, h.os, h.output, h.imm, m, a, d, Mem.sing b (.cells c' e fr), (Mem.del m1 b).un m2, fun k o hk => ?_, fun k o hk => ?_, fun k => ?_, by simp [pt, Mem.sing], Mem.del m1 b, m2, Mem.le_un_left _ _, Mem.le_un_right (fun k => ?_), fun k => ?_, fun k o hk => ?_, h5⟩⟩
 ·unfold Mem.sing at hk
  split at hk
  ·rename_i hkb; subst hkb; cases hk; exact h1 _ _ q1
  ·cases hk
 ·rcases Mem.unS hk with hx | hx
  ·unfold Mem.del at hx
   split at hx
   ·cases hx
   ·exact h1 _ _ hx
  ·exact h2 _ _ hx
 ·by_cases hk : k = b
  ·right
   subst hk
   have hm2 : m2 k = none := by
    rcases h3 k with h | h
    ·rw [q1] at h; cases h
    ·exact h
   exact Mem.unN (by simp [Mem.del]) hm2
  ·exact .inl (by simp [Mem.sing, hk])
 ·unfold Mem.del
  split
  ·exact .inl rfl
  ·exact h3 k
 ·unfold Mem.del
  split
  ·exact .inl rfl
  ·exact h3 k
 ·unfold Mem.del at hk ⊢
  split at hk
  ·cases hk
  ·rename_i hkb
   rw [if_neg hkb]
   exact h4 _ _ hk
theorem Sat.simIn {E : Ev} {w : World} {I J : Mem} {R : List HP} {t b e : Nat} {c c' : Array Value} {fr : Nat × Nat} (hJ : J b = some (.cells c e fr)) (hs : c'.size = c.size) (ht : e = t → c' = c) (h : Sat E w I (pt b (.cells c' e fr) :: simM t (Mem.del J b) :: R)) : Sat E w I (simM t J :: R) := by
 refine h.imp fun m ⟨m1, m2, h1, h2, h3, h4, m3, m4, k1, k2, k3, k4, k5⟩ => ?_
 refine ⟨m1.un m3, m4, fun k o hk => ?_, fun k o hk => h2 _ _ (k2 _ _ hk), fun k => ?_, fun k o hk => ?_, k5⟩
 ·rcases Mem.unS hk with hx | hx
  ·exact h1 _ _ hx
  ·exact h2 _ _ (k1 _ _ hx)
 ·cases hx : m4 k with
  | none => exact .inr rfl
  | some o =>
   left
   have e1 : m1 k = none := by
    rcases h3 k with h | h
    ·exact h
    ·rw [k2 _ _ hx] at h; cases h
   have e2 : m3 k = none := by
    rcases k3 k with h | h
    ·exact h
    ·rw [hx] at h; cases h
   exact Mem.unN e1 e2
 ·by_cases hkb : k = b
  ·subst hkb
   rw [hJ] at hk
   cases hk
   exact ⟨_, Mem.unL h4, c', rfl, hs, ht⟩
  ·have : Mem.del J b k = some o := by unfold Mem.del; rw [if_neg hkb]; exact hk
   obtain ⟨o', q1, q2⟩ := k4 _ _ this
   refine ⟨o', ?_, q2⟩
   have e1 : m1 k = none := by
    rcases h3 k with h | h
    ·exact h
    ·rw [k1 _ _ q1] at h; cases h
   exact (Mem.unR e1).trans q1
theorem Rd.sim {I I0 I' : Mem} {L : List HP} {t b o : Nat} {cs : List Value} {v : Value} {n cap o2 : Nat} (k j : Nat) (hL : L[k]? = some (simM t (Mem.minus I' I0))) (hN : NewV I0 I' t (.slice (some ⟨b, o2, none⟩) n cap)) (hA : At I' b o cs) (hj : cs[j]? = some v) : Rd I L b (o + j) [v] := by
 intro E w hw q u hq
 obtain ⟨h1, c, h2⟩ := hN _ _ _ rfl
 obtain ⟨m, hm, hs⟩ := (hw.perm (pull k L _ hL)).head
 obtain ⟨o', q1, c', rfl, q2, q3⟩ := hs b _ ((Mem.minus_at h1).trans h2)
 have hc : c' = c := q3 rfl
 subst hc
 obtain ⟨c3, ty3, fr3, h3, h4⟩ := hA
 rw [h2] at h3
 cases h3
 cases q with
 | succ q => simp at hq
 | zero =>
  simp at hq
  subst hq
  have := h4 j v hj
  simp only [World.cell?, hm _ _ q1, Option.isSome_none, Bool.false_eq_true, if_false, Nat.add_zero]
  simpa using this
section
variable {Γ : Cx} {ops : Array Oper} {rest : List Oper} {ρ : Nat → Value} {I : Mem} {L : List HP} {Q : Post} {ty : TypeId} {ps : String} {af : Array Edge}
theorem WL.storeSim {I0 I' : Mem} {t t2 b o e n cap o2 j : Nat} {x y : Operand} {v : Value} {cs : List Value} (k : Nat) [hk : TyK Γ.P t2 false 1] (hx : ev ρ x = .pointer (some ⟨b, o + j, none⟩)) (hL : L[k]? = some (simM t (Mem.minus I' I0))) (hN : NewV I0 I' e (.slice (some ⟨b, o2, none⟩) n cap)) (hA : At I' b o cs) (hj : j < cs.length) (he : e ≠ t)
  (hy : ev ρ y = v) (hv : v.cells.toList = [v]) (h1 : v.oneCell' = true) (next : WL Γ ops rest ρ I L Q) : WL Γ ops ({ dst := none, op := .store t2 x y, type := ty, pos := ps, after := af, guard := none } :: rest) ρ I L Q := by
 intro a w ha hw
 obtain ⟨hn, c, hc⟩ := hN _ _ _ rfl
 have hJ : Mem.minus I' I0 b = some (.cells c e (0, 0)) := (Mem.minus_at hn).trans hc
 obtain ⟨c', q1, _, h⟩ := (hw.perm (pull k L _ hL)).simOut hJ
 have hlt : o + j < c.size := by
  obtain ⟨c3, ty3, fr3, h3, h4⟩ := hA
  rw [hc] at h3
  cases h3
  exact (Array.getElem?_eq_some_iff.1 (h4 j _ (List.getElem?_eq_getElem hj))).1
 have hbx : pt b (.cells c' e (0, 0)) = Sl.box b e c'.toList := by unfold Sl.box; rw [Array.toArray_toList]
 rw [hbx] at h
 refine WL.store (cs := c'.toList) 0 hx rfl ?_ ?_ a w ha h
 ·rw [hy, hv]
  have : Nat.ble (o + j + 1) c'.toList.length = true := Nat.ble_eq_true_of_le (by rw [Array.length_toList]; omega)
  simp only [List.length_singleton, storeOk, h1, this, List.all_cons, List.all_nil, Bool.and_true, Bool.and_self]
  rfl
 ·rw [hy, hv]
  intro a w ha hw
  refine next a w ha ?_
  have hsp : (splice c'.toList (o + j) [v]).length = c.size := by
   rw [splice_length (by rw [Array.length_toList]; simp; omega), Array.length_toList, q1]
  have h5 : Sat Γ.E w I (pt b (.cells (splice c'.toList (o + j) [v]).toArray e (0, 0)) :: simM t (Mem.del (Mem.minus I' I0) b) :: L.eraseIdx k) := hw
  exact (h5.simIn hJ (by simp [hsp]) (fun h => absurd h he)).perm (pull k L _ hL).symm
end
end Go.Sl

namespace Go.Proofs.YtggcpoleklcmkaaGreatDoor
open Go.Sl
instance : TyK Tryz.prog 3 false 1 := ⟨by kernel_rfl⟩
instance : ZeroK Tryz.prog 3 [.int .i64 (0)] := ⟨by kernel_rfl⟩
instance : BytK Tryz.prog 3 8 := ⟨by kernel_rfl⟩
instance : IntK Tryz.prog 3 .i64 := ⟨by kernel_rfl⟩
instance : TyK Tryz.prog 4 false 1 := ⟨by kernel_rfl⟩
instance : BoolK Tryz.prog 4 := ⟨by kernel_rfl⟩
instance : TyK Tryz.prog 5 false 1 := ⟨by kernel_rfl⟩
instance : IntK Tryz.prog 5 .u8 := ⟨by kernel_rfl⟩
instance : TyK Tryz.prog 23 true 6 := ⟨by kernel_rfl⟩
instance : ZeroK Tryz.prog 23 [.int .i64 (0), .int .i64 (0), .int .i64 (0), .int .i64 (0), .int .i64 (0), .int .i64 (0)] := ⟨by kernel_rfl⟩
instance : FldK Tryz.prog 23 0 0 false 1 := ⟨by kernel_rfl⟩
instance : FldK Tryz.prog 23 1 1 false 1 := ⟨by kernel_rfl⟩
instance : FldK Tryz.prog 23 2 2 false 1 := ⟨by kernel_rfl⟩
instance : FldK Tryz.prog 23 3 3 false 1 := ⟨by kernel_rfl⟩
instance : FldK Tryz.prog 23 4 4 false 1 := ⟨by kernel_rfl⟩
instance : FldK Tryz.prog 23 5 5 false 1 := ⟨by kernel_rfl⟩
instance : PlK Tryz.prog 23 [(0, 1), (1, 1), (2, 1), (3, 1), (4, 1), (5, 1)] := ⟨by kernel_rfl⟩
instance : EqK Tryz.prog 23 [.i .i64, .i .i64, .i .i64, .i .i64, .i .i64, .i .i64] := ⟨by kernel_rfl, by kernel_rfl, by kernel_rfl⟩
instance : TyK Tryz.prog 25 true 4 := ⟨by kernel_rfl⟩
instance : ZeroK Tryz.prog 25 [.int .u8 (0), .int .u8 (0), .int .u8 (0), .int .u8 (0)] := ⟨by kernel_rfl⟩
instance : ArK Tryz.prog 25 4 false 1 := ⟨by kernel_rfl⟩
instance : PlK Tryz.prog 25 [(0, 1), (1, 1), (2, 1), (3, 1)] := ⟨by kernel_rfl⟩
instance : EqK Tryz.prog 25 [.i .u8, .i .u8, .i .u8, .i .u8] := ⟨by kernel_rfl, by kernel_rfl, by kernel_rfl⟩
instance : TyK Tryz.prog 27 true 2 := ⟨by kernel_rfl⟩
instance : ZeroK Tryz.prog 27 [.int .i64 (0), .int .i64 (0)] := ⟨by kernel_rfl⟩
instance : BytK Tryz.prog 27 16 := ⟨by kernel_rfl⟩
instance : FldK Tryz.prog 27 0 0 false 1 := ⟨by kernel_rfl⟩
instance : FldK Tryz.prog 27 1 1 false 1 := ⟨by kernel_rfl⟩
instance : PlK Tryz.prog 27 [(0, 1), (1, 1)] := ⟨by kernel_rfl⟩
instance : EqK Tryz.prog 27 [.i .i64, .i .i64] := ⟨by kernel_rfl, by kernel_rfl, by kernel_rfl⟩
instance : TyK Tryz.prog 28 false 1 := ⟨by kernel_rfl⟩
instance : SlK Tryz.prog 28 203 5 := ⟨by kernel_rfl⟩
instance : TyK Tryz.prog 30 true 10 := ⟨by kernel_rfl⟩
instance : ZeroK Tryz.prog 30 [.int .i64 (0), .int .u8 (0), .int .u8 (0), .int .u8 (0), .int .u8 (0), .int .i64 (0), .int .i64 (0), .int .i64 (0), .int .i64 (0), .slice none 0 0] := ⟨by kernel_rfl⟩
instance : FldK Tryz.prog 30 0 0 false 1 := ⟨by kernel_rfl⟩
instance : FldK Tryz.prog 30 1 1 true 4 := ⟨by kernel_rfl⟩
instance : FldK Tryz.prog 30 2 5 true 2 := ⟨by kernel_rfl⟩
instance : FldK Tryz.prog 30 3 7 true 2 := ⟨by kernel_rfl⟩
instance : FldK Tryz.prog 30 4 9 false 1 := ⟨by kernel_rfl⟩
instance : TyK Tryz.prog 31 false 1 := ⟨by kernel_rfl⟩
instance : SlK Tryz.prog 31 3 1 := ⟨by kernel_rfl⟩
instance : TyK Tryz.prog 33 true 2 := ⟨by kernel_rfl⟩
instance : FldK Tryz.prog 33 0 0 false 1 := ⟨by kernel_rfl⟩
instance : FldK Tryz.prog 33 1 1 false 1 := ⟨by kernel_rfl⟩
instance : TyK Tryz.prog 35 true 27 := ⟨by kernel_rfl⟩
instance : ZeroK Tryz.prog 35 (.int .i64 (0) :: .int .u8 (0) :: .int .u8 (0) :: .int .u8 (0) :: .int .u8 (0) :: .int .i64 (0) :: .int .i64 (0) :: .int .i64 (0) :: .int .i64 (0) :: .slice none 0 0 :: .int .i64 (0) :: .int .u8 (0) :: .int .u8 (0) :: .int .u8 (0) :: .int .u8 (0) :: .int .i64 (0) :: .int .i64 (0) :: .int .i64 (0) :: .int .i64 (0) :: .slice none 0 0 :: .int .i64 (0) :: .int .i64 (0) :: .int .i64 (0) :: .slice none 0 0 :: .int .i64 (0) :: .int .i64 (0) :: .int .i64 (0) :: []) := ⟨by kernel_rfl⟩
instance : FldK Tryz.prog 35 0 0 true 10 := ⟨by kernel_rfl⟩
instance : FldK Tryz.prog 35 1 10 true 10 := ⟨by kernel_rfl⟩
instance : FldK Tryz.prog 35 2 20 false 1 := ⟨by kernel_rfl⟩
instance : FldK Tryz.prog 35 3 21 false 1 := ⟨by kernel_rfl⟩
instance : FldK Tryz.prog 35 4 22 false 1 := ⟨by kernel_rfl⟩
instance : FldK Tryz.prog 35 5 23 true 2 := ⟨by kernel_rfl⟩
instance : FldK Tryz.prog 35 6 25 false 1 := ⟨by kernel_rfl⟩
instance : FldK Tryz.prog 35 7 26 false 1 := ⟨by kernel_rfl⟩
instance : PlK Tryz.prog 35 [(0, 10), (10, 10), (20, 1), (21, 1), (22, 1), (23, 2), (25, 1), (26, 1)] := ⟨by kernel_rfl⟩
instance : TyK Tryz.prog 36 false 1 := ⟨by kernel_rfl⟩
instance : ZeroK Tryz.prog 36 [.slice none 0 0] := ⟨by kernel_rfl⟩
instance : SlK Tryz.prog 36 57 7 := ⟨by kernel_rfl⟩
instance : TyK Tryz.prog 38 true 34 := ⟨by kernel_rfl⟩
instance : ZeroK Tryz.prog 38 (.int .i64 (0) :: .int .i64 (0) :: .int .i64 (0) :: .int .i64 (0) :: .int .i64 (0) :: .int .i64 (0) :: .int .i64 (0) :: .int .u8 (0) :: .int .u8 (0) :: .int .u8 (0) :: .int .u8 (0) :: .int .i64 (0) :: .int .i64 (0) :: .int .i64 (0) :: .int .i64 (0) :: .slice none 0 0 :: .int .i64 (0) :: .int .u8 (0) :: .int .u8 (0) :: .int .u8 (0) :: .int .u8 (0) :: .int .i64 (0) :: .int .i64 (0) :: .int .i64 (0) :: .int .i64 (0) :: .slice none 0 0 :: .int .i64 (0) :: .int .i64 (0) :: .int .i64 (0) :: .slice none 0 0 :: .int .i64 (0) :: .int .i64 (0) :: .int .i64 (0) :: .slice none 0 0 :: []) := ⟨by kernel_rfl⟩
instance : FldK Tryz.prog 38 0 0 true 6 := ⟨by kernel_rfl⟩
instance : FldK Tryz.prog 38 1 6 true 27 := ⟨by kernel_rfl⟩
instance : FldK Tryz.prog 38 2 33 false 1 := ⟨by kernel_rfl⟩
instance : PlK Tryz.prog 38 [(0, 6), (6, 27), (33, 1)] := ⟨by kernel_rfl⟩
instance : TyK Tryz.prog 41 false 1 := ⟨by kernel_rfl⟩
instance : ZeroK Tryz.prog 41 [.int .i64 (0)] := ⟨by kernel_rfl⟩
instance : SlK Tryz.prog 47 59 51 := ⟨by kernel_rfl⟩
instance : TyK Tryz.prog 54 false 1 := ⟨by kernel_rfl⟩
instance : SlK Tryz.prog 54 69 37 := ⟨by kernel_rfl⟩
instance : TyK Tryz.prog 55 true 6 := ⟨by kernel_rfl⟩
instance : ArK Tryz.prog 55 3 true 2 := ⟨by kernel_rfl⟩
instance : TyK Tryz.prog 57 true 7 := ⟨by kernel_rfl⟩
instance : ZeroK Tryz.prog 57 [.int .i64 (0), .int .i64 (0), .int .i64 (0), .int .i64 (0), .int .i64 (0), .int .i64 (0), .int .i64 (0)] := ⟨by kernel_rfl⟩
instance : BytK Tryz.prog 57 56 := ⟨by kernel_rfl⟩
instance : FldK Tryz.prog 57 0 0 false 1 := ⟨by kernel_rfl⟩
instance : FldK Tryz.prog 57 1 1 true 6 := ⟨by kernel_rfl⟩
instance : EqK Tryz.prog 57 [.i .i64, .i .i64, .i .i64, .i .i64, .i .i64, .i .i64, .i .i64] := ⟨by kernel_rfl, by kernel_rfl, by kernel_rfl⟩
instance : TyK Tryz.prog 59 true 51 := ⟨by kernel_rfl⟩
instance : ZeroK Tryz.prog 59 (.int .i64 (0) :: .int .i64 (0) :: .int .i64 (0) :: .int .i64 (0) :: .int .i64 (0) :: .int .i64 (0) :: .int .i64 (0) :: .slice none 0 0 :: .int .i64 (0) :: .int .i64 (0) :: .int .i64 (0) :: .int .i64 (0) :: .int .i64 (0) :: .int .i64 (0) :: .int .i64 (0) :: .int .u8 (0) :: .int .u8 (0) :: .int .u8 (0) :: .int .u8 (0) :: .int .i64 (0) :: .int .i64 (0) :: .int .i64 (0) :: .int .i64 (0) :: .slice none 0 0 :: .int .i64 (0) :: .int .u8 (0) :: .int .u8 (0) :: .int .u8 (0) :: .int .u8 (0) :: .int .i64 (0) :: .int .i64 (0) :: .int .i64 (0) :: .int .i64 (0) :: .slice none 0 0 :: .int .i64 (0) :: .int .i64 (0) :: .int .i64 (0) :: .slice none 0 0 :: .int .i64 (0) :: .int .i64 (0) :: .int .i64 (0) :: .slice none 0 0 :: .int .i64 (0) :: .int .i64 (0) :: .int .i64 (0) :: .int .i64 (0) :: .int .i64 (0) :: .int .i64 (0) :: .int .i64 (0) :: .int .i64 (0) :: .int .i64 (0) :: []) := ⟨by kernel_rfl⟩
instance : FldK Tryz.prog 59 0 0 false 1 := ⟨by kernel_rfl⟩
instance : FldK Tryz.prog 59 1 1 false 1 := ⟨by kernel_rfl⟩
instance : FldK Tryz.prog 59 2 2 false 1 := ⟨by kernel_rfl⟩
instance : FldK Tryz.prog 59 3 3 false 1 := ⟨by kernel_rfl⟩
instance : FldK Tryz.prog 59 4 4 false 1 := ⟨by kernel_rfl⟩
instance : FldK Tryz.prog 59 5 5 false 1 := ⟨by kernel_rfl⟩
instance : FldK Tryz.prog 59 6 6 false 1 := ⟨by kernel_rfl⟩
instance : FldK Tryz.prog 59 7 7 false 1 := ⟨by kernel_rfl⟩
instance : FldK Tryz.prog 59 8 8 true 34 := ⟨by kernel_rfl⟩
instance : FldK Tryz.prog 59 9 42 true 7 := ⟨by kernel_rfl⟩
instance : FldK Tryz.prog 59 10 49 true 2 := ⟨by kernel_rfl⟩
instance : PlK Tryz.prog 59 [(0, 1), (1, 1), (2, 1), (3, 1), (4, 1), (5, 1), (6, 1), (7, 1), (8, 34), (42, 7), (49, 2)] := ⟨by kernel_rfl⟩
instance : TyK Tryz.prog 65 false 1 := ⟨by kernel_rfl⟩
instance : TyK Tryz.prog 69 true 37 := ⟨by kernel_rfl⟩
instance : ZeroK Tryz.prog 69 (.int .i64 (0) :: .bool false :: .int .i64 (0) :: .int .i64 (0) :: .int .i64 (0) :: .int .i64 (0) :: .int .i64 (0) :: .int .i64 (0) :: .int .i64 (0) :: .int .i64 (0) :: .int .u8 (0) :: .int .u8 (0) :: .int .u8 (0) :: .int .u8 (0) :: .int .i64 (0) :: .int .i64 (0) :: .int .i64 (0) :: .int .i64 (0) :: .slice none 0 0 :: .int .i64 (0) :: .int .u8 (0) :: .int .u8 (0) :: .int .u8 (0) :: .int .u8 (0) :: .int .i64 (0) :: .int .i64 (0) :: .int .i64 (0) :: .int .i64 (0) :: .slice none 0 0 :: .int .i64 (0) :: .int .i64 (0) :: .int .i64 (0) :: .slice none 0 0 :: .int .i64 (0) :: .int .i64 (0) :: .int .i64 (0) :: .slice none 0 0 :: []) := ⟨by kernel_rfl⟩
instance : BytK Tryz.prog 69 312 := ⟨by kernel_rfl⟩
instance : FldK Tryz.prog 69 0 0 false 1 := ⟨by kernel_rfl⟩
instance : FldK Tryz.prog 69 1 1 false 1 := ⟨by kernel_rfl⟩
instance : FldK Tryz.prog 69 2 2 false 1 := ⟨by kernel_rfl⟩
instance : FldK Tryz.prog 69 3 3 true 34 := ⟨by kernel_rfl⟩
instance : PlK Tryz.prog 69 [(0, 1), (1, 1), (2, 1), (3, 34)] := ⟨by kernel_rfl⟩
instance : TyK Tryz.prog 70 false 1 := ⟨by kernel_rfl⟩
instance : SlK Tryz.prog 70 72 3 := ⟨by kernel_rfl⟩
instance : TyK Tryz.prog 72 true 3 := ⟨by kernel_rfl⟩
instance : ZeroK Tryz.prog 72 [.int .i64 (0), .bool false, .slice none 0 0] := ⟨by kernel_rfl⟩
instance : BytK Tryz.prog 72 40 := ⟨by kernel_rfl⟩
instance : FldK Tryz.prog 72 0 0 false 1 := ⟨by kernel_rfl⟩
instance : FldK Tryz.prog 72 1 1 false 1 := ⟨by kernel_rfl⟩
instance : FldK Tryz.prog 72 2 2 false 1 := ⟨by kernel_rfl⟩
instance : PlK Tryz.prog 72 [(0, 1), (1, 1), (2, 1)] := ⟨by kernel_rfl⟩
instance : TyK Tryz.prog 75 false 1 := ⟨by kernel_rfl⟩
instance : ZeroK Tryz.prog 75 [.slice none 0 0] := ⟨by kernel_rfl⟩
instance : SlK Tryz.prog 75 77 3 := ⟨by kernel_rfl⟩
instance : TyK Tryz.prog 77 true 3 := ⟨by kernel_rfl⟩
instance : ZeroK Tryz.prog 77 [.int .i64 (0), .bool false, .slice none 0 0] := ⟨by kernel_rfl⟩
instance : BytK Tryz.prog 77 40 := ⟨by kernel_rfl⟩
instance : FldK Tryz.prog 77 0 0 false 1 := ⟨by kernel_rfl⟩
instance : FldK Tryz.prog 77 1 1 false 1 := ⟨by kernel_rfl⟩
instance : FldK Tryz.prog 77 2 2 false 1 := ⟨by kernel_rfl⟩
instance : PlK Tryz.prog 77 [(0, 1), (1, 1), (2, 1)] := ⟨by kernel_rfl⟩
instance : TyK Tryz.prog 78 false 1 := ⟨by kernel_rfl⟩
instance : ZeroK Tryz.prog 80 [.int .i64 (0), .bool false, .slice none 0 0, .map none] := ⟨by kernel_rfl⟩
instance : FldK Tryz.prog 80 0 0 true 3 := ⟨by kernel_rfl⟩
instance : FldK Tryz.prog 80 1 3 false 1 := ⟨by kernel_rfl⟩
instance : PlK Tryz.prog 80 [(0, 3), (3, 1)] := ⟨by kernel_rfl⟩
instance : SlK Tryz.prog 87 132 3 := ⟨by kernel_rfl⟩
instance : ZeroK Tryz.prog 115 [.int .i64 (0), .int .i64 (0), .int .i64 (0), .int .i64 (0)] := ⟨by kernel_rfl⟩
instance : ArK Tryz.prog 115 4 false 1 := ⟨by kernel_rfl⟩
instance : PlK Tryz.prog 115 [(0, 1), (1, 1), (2, 1), (3, 1)] := ⟨by kernel_rfl⟩
instance : SlK Tryz.prog 117 30 10 := ⟨by kernel_rfl⟩
instance : TyK Tryz.prog 118 true 3 := ⟨by kernel_rfl⟩
instance : ZeroK Tryz.prog 118 [.int .i64 (0), .int .i64 (0), .int .i64 (0)] := ⟨by kernel_rfl⟩
instance : FldK Tryz.prog 118 0 0 false 1 := ⟨by kernel_rfl⟩
instance : FldK Tryz.prog 118 1 1 false 1 := ⟨by kernel_rfl⟩
instance : FldK Tryz.prog 118 2 2 false 1 := ⟨by kernel_rfl⟩
instance : PlK Tryz.prog 118 [(0, 1), (1, 1), (2, 1)] := ⟨by kernel_rfl⟩
instance : SlK Tryz.prog 119 118 3 := ⟨by kernel_rfl⟩
instance : SlK Tryz.prog 122 27 2 := ⟨by kernel_rfl⟩
instance : TyK Tryz.prog 132 true 3 := ⟨by kernel_rfl⟩
instance : ZeroK Tryz.prog 132 [.int .i64 (0), .int .i64 (0), .bool false] := ⟨by kernel_rfl⟩
instance : BytK Tryz.prog 132 24 := ⟨by kernel_rfl⟩
instance : FldK Tryz.prog 132 0 0 false 1 := ⟨by kernel_rfl⟩
instance : FldK Tryz.prog 132 1 1 false 1 := ⟨by kernel_rfl⟩
instance : FldK Tryz.prog 132 2 2 false 1 := ⟨by kernel_rfl⟩
instance : PlK Tryz.prog 132 [(0, 1), (1, 1), (2, 1)] := ⟨by kernel_rfl⟩
instance : EqK Tryz.prog 132 [.i .i64, .i .i64, .b] := ⟨by kernel_rfl, by kernel_rfl, by kernel_rfl⟩
instance : ZeroK Tryz.prog 136 [.pointer none, .map none, .int .i64 (0)] := ⟨by kernel_rfl⟩
instance : FldK Tryz.prog 136 0 0 false 1 := ⟨by kernel_rfl⟩
instance : FldK Tryz.prog 136 1 1 false 1 := ⟨by kernel_rfl⟩
instance : FldK Tryz.prog 136 2 2 false 1 := ⟨by kernel_rfl⟩
instance : PlK Tryz.prog 136 [(0, 1), (1, 1), (2, 1)] := ⟨by kernel_rfl⟩
instance : TyK Tryz.prog 142 false 1 := ⟨by kernel_rfl⟩
instance : SlK Tryz.prog 142 191 4 := ⟨by kernel_rfl⟩
instance : TyK Tryz.prog 143 false 1 := ⟨by kernel_rfl⟩
instance : ZeroK Tryz.prog 145 [.slice none 0 0, .slice none 0 0, .map none] := ⟨by kernel_rfl⟩
instance : FldK Tryz.prog 145 0 0 false 1 := ⟨by kernel_rfl⟩
instance : FldK Tryz.prog 145 1 1 false 1 := ⟨by kernel_rfl⟩
instance : FldK Tryz.prog 145 2 2 false 1 := ⟨by kernel_rfl⟩
instance : PlK Tryz.prog 145 [(0, 1), (1, 1), (2, 1)] := ⟨by kernel_rfl⟩
instance : ArK Tryz.prog 163 6 false 1 := ⟨by kernel_rfl⟩
instance : TyK Tryz.prog 191 true 4 := ⟨by kernel_rfl⟩
instance : ZeroK Tryz.prog 191 [.int .i64 (0), .bool false, .int .i64 (0), .slice none 0 0] := ⟨by kernel_rfl⟩
instance : BytK Tryz.prog 191 48 := ⟨by kernel_rfl⟩
instance : FldK Tryz.prog 191 0 0 false 1 := ⟨by kernel_rfl⟩
instance : FldK Tryz.prog 191 1 1 false 1 := ⟨by kernel_rfl⟩
instance : FldK Tryz.prog 191 2 2 false 1 := ⟨by kernel_rfl⟩
instance : FldK Tryz.prog 191 3 3 false 1 := ⟨by kernel_rfl⟩
instance : PlK Tryz.prog 191 [(0, 1), (1, 1), (2, 1), (3, 1)] := ⟨by kernel_rfl⟩
instance : TyK Tryz.prog 203 true 5 := ⟨by kernel_rfl⟩
instance : ZeroK Tryz.prog 203 [.int .i64 (0), .int .u8 (0), .int .u8 (0), .int .u8 (0), .int .u8 (0)] := ⟨by kernel_rfl⟩
instance : BytK Tryz.prog 203 16 := ⟨by kernel_rfl⟩
instance : FldK Tryz.prog 203 0 0 false 1 := ⟨by kernel_rfl⟩
instance : FldK Tryz.prog 203 1 1 true 4 := ⟨by kernel_rfl⟩
instance : EqK Tryz.prog 203 [.i .i64, .i .u8, .i .u8, .i .u8, .i .u8] := ⟨by kernel_rfl, by kernel_rfl, by kernel_rfl⟩
instance : TyK Tryz.prog 224 false 1 := ⟨by kernel_rfl⟩
instance : ZeroK Tryz.prog 224 [.pointer none] := ⟨by kernel_rfl⟩
instance : SlK Tryz.prog 225 224 1 := ⟨by kernel_rfl⟩
instance : SlK Tryz.prog 234 75 1 := ⟨by kernel_rfl⟩
instance : TyK Tryz.prog 242 false 1 := ⟨by kernel_rfl⟩
instance : ZeroK Tryz.prog 242 [.map none] := ⟨by kernel_rfl⟩
instance : TyK Tryz.prog 246 false 1 := ⟨by kernel_rfl⟩
instance : SlK Tryz.prog 252 36 1 := ⟨by kernel_rfl⟩
instance : ArK Tryz.prog 256 4 true 2 := ⟨by kernel_rfl⟩
instance : TyK Tryz.prog 258 true 9 := ⟨by kernel_rfl⟩
instance : ZeroK Tryz.prog 258 [.int .i64 (0), .int .i64 (0), .int .i64 (0), .int .i64 (0), .int .i64 (0), .int .i64 (0), .int .i64 (0), .int .i64 (0), .int .i64 (0)] := ⟨by kernel_rfl⟩
instance : FldK Tryz.prog 258 0 0 true 8 := ⟨by kernel_rfl⟩
instance : FldK Tryz.prog 258 1 8 false 1 := ⟨by kernel_rfl⟩
instance : PlK Tryz.prog 258 [(0, 8), (8, 1)] := ⟨by kernel_rfl⟩
instance : FnK Tryz.prog 14 := ⟨_, _, Tryz.func14, by kernel_rfl, rfl⟩
instance : FnK Tryz.prog 15 := ⟨_, _, Tryz.func15, by kernel_rfl, rfl⟩
instance : FnK Tryz.prog 16 := ⟨_, _, Tryz.func16, by kernel_rfl, rfl⟩
instance : FnK Tryz.prog 17 := ⟨_, _, Tryz.func17, by kernel_rfl, rfl⟩
instance : FnK Tryz.prog 18 := ⟨_, _, Tryz.func18, by kernel_rfl, rfl⟩
instance : FnK Tryz.prog 19 := ⟨_, _, Tryz.func19, by kernel_rfl, rfl⟩
instance : FnK Tryz.prog 20 := ⟨_, _, Tryz.func20, by kernel_rfl, rfl⟩
instance : FnK Tryz.prog 21 := ⟨_, _, Tryz.func21, by kernel_rfl, rfl⟩
instance : FnK Tryz.prog 22 := ⟨_, _, Tryz.func22, by kernel_rfl, rfl⟩
instance : FnK Tryz.prog 23 := ⟨_, _, Tryz.func23, by kernel_rfl, rfl⟩
instance : FnK Tryz.prog 24 := ⟨_, _, Tryz.func24, by kernel_rfl, rfl⟩
instance : FnK Tryz.prog 25 := ⟨_, _, Tryz.func25, by kernel_rfl, rfl⟩
instance : FnK Tryz.prog 26 := ⟨_, _, Tryz.func26, by kernel_rfl, rfl⟩
instance : FnK Tryz.prog 27 := ⟨_, _, Tryz.func27, by kernel_rfl, rfl⟩
instance : FnK Tryz.prog 28 := ⟨_, _, Tryz.func28, by kernel_rfl, rfl⟩
instance : FnK Tryz.prog 29 := ⟨_, _, Tryz.func29, by kernel_rfl, rfl⟩
instance : FnK Tryz.prog 30 := ⟨_, _, Tryz.func30, by kernel_rfl, rfl⟩
instance : FnK Tryz.prog 31 := ⟨_, _, Tryz.func31, by kernel_rfl, rfl⟩
instance : FnK Tryz.prog 32 := ⟨_, _, Tryz.func32, by kernel_rfl, rfl⟩
instance : FnK Tryz.prog 36 := ⟨_, _, Tryz.func36, by kernel_rfl, rfl⟩
instance : FnK Tryz.prog 37 := ⟨_, _, Tryz.func37, by kernel_rfl, rfl⟩
instance : FnK Tryz.prog 38 := ⟨_, _, Tryz.func38, by kernel_rfl, rfl⟩
instance : FnK Tryz.prog 53 := ⟨_, _, Tryz.func53, by kernel_rfl, rfl⟩
instance : FnK Tryz.prog 54 := ⟨_, _, Tryz.func54, by kernel_rfl, rfl⟩
instance : FnK Tryz.prog 55 := ⟨_, _, Tryz.func55, by kernel_rfl, rfl⟩
instance : FnK Tryz.prog 56 := ⟨_, _, Tryz.func56, by kernel_rfl, rfl⟩
instance : FnK Tryz.prog 57 := ⟨_, _, Tryz.func57, by kernel_rfl, rfl⟩
instance : FnK Tryz.prog 58 := ⟨_, _, Tryz.func58, by kernel_rfl, rfl⟩
instance : FnK Tryz.prog 59 := ⟨_, _, Tryz.func59, by kernel_rfl, rfl⟩
instance : FnK Tryz.prog 60 := ⟨_, _, Tryz.func60, by kernel_rfl, rfl⟩
instance : FnK Tryz.prog 61 := ⟨_, _, Tryz.func61, by kernel_rfl, rfl⟩
instance : FnK Tryz.prog 62 := ⟨_, _, Tryz.func62, by kernel_rfl, rfl⟩
instance : FnK Tryz.prog 63 := ⟨_, _, Tryz.func63, by kernel_rfl, rfl⟩
instance : FnK Tryz.prog 64 := ⟨_, _, Tryz.func64, by kernel_rfl, rfl⟩
instance : FnK Tryz.prog 65 := ⟨_, _, Tryz.func65, by kernel_rfl, rfl⟩
instance : FnK Tryz.prog 66 := ⟨_, _, Tryz.func66, by kernel_rfl, rfl⟩
instance : FnK Tryz.prog 67 := ⟨_, _, Tryz.func67, by kernel_rfl, rfl⟩
instance : FnK Tryz.prog 68 := ⟨_, _, Tryz.func68, by kernel_rfl, rfl⟩
instance : FnK Tryz.prog 69 := ⟨_, _, Tryz.func69, by kernel_rfl, rfl⟩
instance : FnK Tryz.prog 70 := ⟨_, _, Tryz.func70, by kernel_rfl, rfl⟩
instance : FnK Tryz.prog 71 := ⟨_, _, Tryz.func71, by kernel_rfl, rfl⟩
instance : FnK Tryz.prog 72 := ⟨_, _, Tryz.func72, by kernel_rfl, rfl⟩
instance : FnK Tryz.prog 73 := ⟨_, _, Tryz.func73, by kernel_rfl, rfl⟩
instance : FnK Tryz.prog 74 := ⟨_, _, Tryz.func74, by kernel_rfl, rfl⟩
instance : FnK Tryz.prog 75 := ⟨_, _, Tryz.func75, by kernel_rfl, rfl⟩
instance : FnK Tryz.prog 76 := ⟨_, _, Tryz.func76, by kernel_rfl, rfl⟩
instance : FnK Tryz.prog 77 := ⟨_, _, Tryz.func77, by kernel_rfl, rfl⟩
instance : FnK Tryz.prog 78 := ⟨_, _, Tryz.func78, by kernel_rfl, rfl⟩
instance : FnK Tryz.prog 79 := ⟨_, _, Tryz.func79, by kernel_rfl, rfl⟩
instance : FnK Tryz.prog 80 := ⟨_, _, Tryz.func80, by kernel_rfl, rfl⟩
instance : FnK Tryz.prog 83 := ⟨_, _, Tryz.func83, by kernel_rfl, rfl⟩
instance : FnK Tryz.prog 93 := ⟨_, _, Tryz.func93, by kernel_rfl, rfl⟩
instance : FnK Tryz.prog 94 := ⟨_, _, Tryz.func94, by kernel_rfl, rfl⟩
instance : FnK Tryz.prog 95 := ⟨_, _, Tryz.func95, by kernel_rfl, rfl⟩
instance : FnK Tryz.prog 96 := ⟨_, _, Tryz.func96, by kernel_rfl, rfl⟩
instance : FnK Tryz.prog 97 := ⟨_, _, Tryz.func97, by kernel_rfl, rfl⟩
instance : FnK Tryz.prog 98 := ⟨_, _, Tryz.func98, by kernel_rfl, rfl⟩
instance : FnK Tryz.prog 99 := ⟨_, _, Tryz.func99, by kernel_rfl, rfl⟩
instance : FnK Tryz.prog 100 := ⟨_, _, Tryz.func100, by kernel_rfl, rfl⟩
instance : FnK Tryz.prog 101 := ⟨_, _, Tryz.func101, by kernel_rfl, rfl⟩
instance : FnK Tryz.prog 102 := ⟨_, _, Tryz.func102, by kernel_rfl, rfl⟩
instance : FnK Tryz.prog 103 := ⟨_, _, Tryz.func103, by kernel_rfl, rfl⟩
instance : FnK Tryz.prog 104 := ⟨_, _, Tryz.func104, by kernel_rfl, rfl⟩
instance : FnK Tryz.prog 105 := ⟨_, _, Tryz.func105, by kernel_rfl, rfl⟩
instance : FnK Tryz.prog 106 := ⟨_, _, Tryz.func106, by kernel_rfl, rfl⟩
instance : FnK Tryz.prog 107 := ⟨_, _, Tryz.func107, by kernel_rfl, rfl⟩
instance : FnK Tryz.prog 108 := ⟨_, _, Tryz.func108, by kernel_rfl, rfl⟩
instance : FnK Tryz.prog 109 := ⟨_, _, Tryz.func109, by kernel_rfl, rfl⟩
instance : FnK Tryz.prog 110 := ⟨_, _, Tryz.func110, by kernel_rfl, rfl⟩
instance : FnK Tryz.prog 111 := ⟨_, _, Tryz.func111, by kernel_rfl, rfl⟩
instance : FnK Tryz.prog 112 := ⟨_, _, Tryz.func112, by kernel_rfl, rfl⟩
instance : FnK Tryz.prog 113 := ⟨_, _, Tryz.func113, by kernel_rfl, rfl⟩
instance : FnK Tryz.prog 114 := ⟨_, _, Tryz.func114, by kernel_rfl, rfl⟩
instance : FnK Tryz.prog 115 := ⟨_, _, Tryz.func115, by kernel_rfl, rfl⟩
instance : FnK Tryz.prog 116 := ⟨_, _, Tryz.func116, by kernel_rfl, rfl⟩
instance : FnK Tryz.prog 117 := ⟨_, _, Tryz.func117, by kernel_rfl, rfl⟩
instance : FnK Tryz.prog 118 := ⟨_, _, Tryz.func118, by kernel_rfl, rfl⟩
instance : FnK Tryz.prog 119 := ⟨_, _, Tryz.func119, by kernel_rfl, rfl⟩
instance : FnK Tryz.prog 126 := ⟨_, _, Tryz.func126, by kernel_rfl, rfl⟩
instance : FnK Tryz.prog 127 := ⟨_, _, Tryz.func127, by kernel_rfl, rfl⟩
instance : FnK Tryz.prog 128 := ⟨_, _, Tryz.func128, by kernel_rfl, rfl⟩
instance : FnK Tryz.prog 129 := ⟨_, _, Tryz.func129, by kernel_rfl, rfl⟩
instance : FnK Tryz.prog 130 := ⟨_, _, Tryz.func130, by kernel_rfl, rfl⟩
instance : FnK Tryz.prog 131 := ⟨_, _, Tryz.func131, by kernel_rfl, rfl⟩
instance : FnK Tryz.prog 132 := ⟨_, _, Tryz.func132, by kernel_rfl, rfl⟩
instance : FnK Tryz.prog 133 := ⟨_, _, Tryz.func133, by kernel_rfl, rfl⟩
instance : FnK Tryz.prog 134 := ⟨_, _, Tryz.func134, by kernel_rfl, rfl⟩
instance : FnK Tryz.prog 135 := ⟨_, _, Tryz.func135, by kernel_rfl, rfl⟩
instance : FnK Tryz.prog 136 := ⟨_, _, Tryz.func136, by kernel_rfl, rfl⟩
instance : FnK Tryz.prog 137 := ⟨_, _, Tryz.func137, by kernel_rfl, rfl⟩
instance : FnK Tryz.prog 138 := ⟨_, _, Tryz.func138, by kernel_rfl, rfl⟩
instance : FnK Tryz.prog 139 := ⟨_, _, Tryz.func139, by kernel_rfl, rfl⟩
instance : FnK Tryz.prog 140 := ⟨_, _, Tryz.func140, by kernel_rfl, rfl⟩
instance : FnK Tryz.prog 141 := ⟨_, _, Tryz.func141, by kernel_rfl, rfl⟩
instance : FnK Tryz.prog 142 := ⟨_, _, Tryz.func142, by kernel_rfl, rfl⟩
instance : FnK Tryz.prog 143 := ⟨_, _, Tryz.func143, by kernel_rfl, rfl⟩
instance : FnK Tryz.prog 144 := ⟨_, _, Tryz.func144, by kernel_rfl, rfl⟩
instance : FnK Tryz.prog 145 := ⟨_, _, Tryz.func145, by kernel_rfl, rfl⟩
instance : FnK Tryz.prog 146 := ⟨_, _, Tryz.func146, by kernel_rfl, rfl⟩
instance : FnK Tryz.prog 147 := ⟨_, _, Tryz.func147, by kernel_rfl, rfl⟩
instance : FnK Tryz.prog 148 := ⟨_, _, Tryz.func148, by kernel_rfl, rfl⟩
instance : FnK Tryz.prog 149 := ⟨_, _, Tryz.func149, by kernel_rfl, rfl⟩
instance : FnK Tryz.prog 150 := ⟨_, _, Tryz.func150, by kernel_rfl, rfl⟩
instance : FnK Tryz.prog 151 := ⟨_, _, Tryz.func151, by kernel_rfl, rfl⟩
instance : FnK Tryz.prog 152 := ⟨_, _, Tryz.func152, by kernel_rfl, rfl⟩
instance : FnK Tryz.prog 153 := ⟨_, _, Tryz.func153, by kernel_rfl, rfl⟩
instance : FnK Tryz.prog 157 := ⟨_, _, Tryz.func157, by kernel_rfl, rfl⟩
instance : FnK Tryz.prog 158 := ⟨_, _, Tryz.func158, by kernel_rfl, rfl⟩
instance : FnK Tryz.prog 159 := ⟨_, _, Tryz.func159, by kernel_rfl, rfl⟩
instance : FnK Tryz.prog 160 := ⟨_, _, Tryz.func160, by kernel_rfl, rfl⟩
instance : FnK Tryz.prog 161 := ⟨_, _, Tryz.func161, by kernel_rfl, rfl⟩
instance : FnK Tryz.prog 162 := ⟨_, _, Tryz.func162, by kernel_rfl, rfl⟩
instance : FnK Tryz.prog 163 := ⟨_, _, Tryz.func163, by kernel_rfl, rfl⟩
instance : FnK Tryz.prog 164 := ⟨_, _, Tryz.func164, by kernel_rfl, rfl⟩
instance : FnK Tryz.prog 167 := ⟨_, _, Tryz.func167, by kernel_rfl, rfl⟩
instance : FnK Tryz.prog 168 := ⟨_, _, Tryz.func168, by kernel_rfl, rfl⟩
instance : FnK Tryz.prog 170 := ⟨_, _, Tryz.func170, by kernel_rfl, rfl⟩
instance : FnK Tryz.prog 171 := ⟨_, _, Tryz.func171, by kernel_rfl, rfl⟩
instance : FnK Tryz.prog 172 := ⟨_, _, Tryz.func172, by kernel_rfl, rfl⟩
instance : FnK Tryz.prog 173 := ⟨_, _, Tryz.func173, by kernel_rfl, rfl⟩
instance : FnK Tryz.prog 174 := ⟨_, _, Tryz.func174, by kernel_rfl, rfl⟩
instance : FnK Tryz.prog 175 := ⟨_, _, Tryz.func175, by kernel_rfl, rfl⟩
instance : FnK Tryz.prog 176 := ⟨_, _, Tryz.func176, by kernel_rfl, rfl⟩
instance : FnK Tryz.prog 178 := ⟨_, _, Tryz.func178, by kernel_rfl, rfl⟩
end Go.Proofs.YtggcpoleklcmkaaGreatDoor

namespace Go.Tr
open Go.Sl Go.Ls
inductive Nd where
 | mk (id : Int) (grp : Bool) (kids : List Nd)
namespace Nd
def id : Nd → Int | .mk i _ _ => i
def grp : Nd → Bool | .mk _ g _ => g
def kids : Nd → List Nd | .mk _ _ ks => ks
mutual
def size : Nd → Nat | .mk _ _ ks => 1 + sizes ks
def sizes : List Nd → Nat | [] => 0 | k :: ks => k.size + sizes ks
end
mutual
def height : Nd → Nat | .mk _ _ ks => heights ks + 1
def heights : List Nd → Nat | [] => 0 | k :: ks => max k.height (heights ks)
end
mutual
def order : Nd → List Int | .mk i _ ks => i :: orders ks
def orders : List Nd → List Int | [] => [] | k :: ks => k.order ++ orders ks
end
mutual
def find (i : Int) : Nd → Option Nd | .mk j g ks => if j = i then some (.mk j g ks) else finds i ks
def finds (i : Int) : List Nd → Option Nd | [] => none | k :: ks => (find i k).or (finds i ks)
end
mutual
def depth (i : Int) : Nd → Int | .mk j g ks => if j = i then 0 else depths i ks
def depths (i : Int) : List Nd → Int | [] => -1 | k :: ks => if 0 ≤ depth i k then depth i k + 1 else depths i ks
end
mutual
def whr (i : Int) : Nd → Option (Int × Int) | .mk j _ ks => whrs i j 0 ks
def whrs (i j : Int) (n : Nat) : List Nd → Option (Int × Int) | [] => none | k :: ks => if k.id = i then some (j, (n : Int)) else (whr i k).or (whrs i j (n + 1) ks)
end
mutual
def with_ (i : Int) (l : List Nd) : Nd → Nd | .mk j g ks => .mk j g (if j = i then l else withs i l ks)
def withs (i : Int) (l : List Nd) : List Nd → List Nd | [] => [] | k :: ks => with_ i l k :: withs i l ks
end
theorem sizes_app : ∀ (a b : List Nd), sizes (a ++ b) = sizes a + sizes b
 | [], b => by simp [sizes]
 | x :: a, b => by simp only [List.cons_append, sizes, sizes_app a b]; omega
theorem heights_app : ∀ (a b : List Nd), heights (a ++ b) = max (heights a) (heights b)
 | [], b => by simp [heights]
 | x :: a, b => by simp only [List.cons_append, heights, heights_app a b]; omega
theorem orders_app : ∀ (a b : List Nd), orders (a ++ b) = orders a ++ orders b
 | [], b => by simp [orders]
 | x :: a, b => by simp only [List.cons_append, orders, orders_app a b, List.append_assoc]
theorem withs_app (i : Int) (l : List Nd) : ∀ (a b : List Nd), withs i l (a ++ b) = withs i l a ++ withs i l b
 | [], b => by simp [withs]
 | x :: a, b => by simp only [List.cons_append, withs, withs_app i l a b]
theorem withs_len (i : Int) (l : List Nd) : ∀ (a : List Nd), (withs i l a).length = a.length
 | [] => rfl
 | x :: a => by simp only [withs, List.length_cons, withs_len i l a]
theorem finds_app (i : Int) : ∀ (a b : List Nd), finds i (a ++ b) = (finds i a).or (finds i b)
 | [], b => by simp [finds]
 | x :: a, b => by simp only [List.cons_append, finds, finds_app i a b, Option.or_assoc]
theorem depths_app (i : Int) : ∀ (a b : List Nd), depths i (a ++ b) = if 0 ≤ depths i a then depths i a else depths i b
 | [], b => by simp [depths]
 | x :: a, b => by
  simp only [List.cons_append, depths, depths_app i a b]
  by_cases h : 0 ≤ depth i x
  ·simp only [h, if_true]; rw [if_pos (by omega)]
  ·simp only [h, if_false]
theorem whrs_app (i j : Int) : ∀ (a b : List Nd) (n : Nat), whrs i j n (a ++ b) = (whrs i j n a).or (whrs i j (n + a.length) b)
 | [], b, n => by simp [whrs]
 | x :: a, b, n => by
  simp only [List.cons_append, whrs, whrs_app i j a b (n + 1), List.length_cons]
  by_cases h : x.id = i
  ·simp [h]
  ·simp only [h, if_false, Option.or_assoc, show n + 1 + a.length = n + (a.length + 1) by omega]
theorem size_pos (n : Nd) : 0 < n.size := by cases n; simp only [size]; omega
theorem size_le_sizes : ∀ {l : List Nd} {k : Nd}, k ∈ l → k.size ≤ sizes l
 | x :: l, k, h => by
  simp only [sizes]
  rcases List.mem_cons.1 h with rfl | h
  ·omega
  ·have := size_le_sizes h; omega
 | [], _, h => by cases h
theorem sizes_take : ∀ (l : List Nd) (k : Nat), sizes (l.take k) ≤ sizes l
 | [], k => by simp [sizes]
 | x :: l, 0 => by simp [sizes]
 | x :: l, k + 1 => by simp only [List.take_succ_cons, sizes]; have := sizes_take l k; omega
theorem len_le_sizes : ∀ (l : List Nd), l.length ≤ sizes l
 | [] => by simp
 | x :: l => by simp only [List.length_cons, sizes]; have := len_le_sizes l; have := size_pos x; omega
theorem depth_le (i : Int) : (∀ n : Nd, depth i n < n.size ∧ -1 ≤ depth i n) := by
 intro n
 refine Nd.rec (motive_1 := fun n => depth i n < n.size ∧ -1 ≤ depth i n) (motive_2 := fun l => depths i l ≤ sizes l ∧ -1 ≤ depths i l) ?_ ?_ ?_ n
 ·intro j g ks ih
  simp only [depth, size]
  split <;> omega
 ·simp [depths, sizes]
 ·intro k ks h1 h2
  simp only [depths, sizes]
  have := size_pos k
  split <;> omega
theorem height_le : ∀ n : Nd, n.height ≤ n.size := by
 intro n
 refine Nd.rec (motive_1 := fun n => n.height ≤ n.size) (motive_2 := fun l => heights l ≤ sizes l) ?_ ?_ ?_ n
 ·intro j g ks ih
  simp only [height, size]; omega
 ·simp [heights]
 ·intro k ks h1 h2
  simp only [heights, sizes]; omega
theorem order_len : ∀ n : Nd, n.order.length = n.size := by
 intro n
 refine Nd.rec (motive_1 := fun n => n.order.length = n.size) (motive_2 := fun l => (orders l).length = sizes l) ?_ ?_ ?_ n
 ·intro j g ks ih
  simp only [order, size, List.length_cons, ih]; omega
 ·rfl
 ·intro k ks h1 h2
  simp only [orders, sizes, List.length_append, h1, h2]
/-! cells -/
mutual
def rep (I : Mem) : Nd → List Value → Prop
 | .mk i g ks, cs => I64 i ∧ ∃ kv css, cs = [vi i, .bool g, kv] ∧ SlAt I kv ks.length css.flatten ∧ reps I ks css
def reps (I : Mem) : List Nd → List (List Value) → Prop
 | [], [] => True
 | k :: ks, c :: css => rep I k c ∧ reps I ks css
 | _, _ => False
end
theorem reps_all {I : Mem} : ∀ {l : List Nd} {css : List (List Value)}, reps I l css ↔ All2 (rep I) l css
 | [], [] => by simp [reps, All2]
 | k :: ks, c :: css => by simp only [reps, All2, reps_all]
 | [], _ :: _ => by simp [reps, All2]
 | _ :: _, [] => by simp [reps, All2]
abbrev Rp : Rep Nd := fun I n cs => rep I n cs
theorem rep_mono {I I' : Mem} (hI : I.le I') : ∀ (n : Nd) (cs : List Value), rep I n cs → rep I' n cs := by
 intro n
 refine Nd.rec (motive_1 := fun n => ∀ cs, rep I n cs → rep I' n cs) (motive_2 := fun l => ∀ css, reps I l css → reps I' l css) ?_ ?_ ?_ n
 ·rintro i g ks ih cs ⟨h1, kv, css, h2, h3, h4⟩
  exact ⟨h1, kv, css, h2, h3.mono hI, ih _ h4⟩
 ·intro css h; cases css with
  | nil => trivial
  | cons _ _ => exact h.elim
 ·intro k ks h1 h2 css h; cases css with
  | nil => exact h.elim
  | cons c css => exact ⟨h1 _ h.1, h2 _ h.2⟩
instance : RepMono Rp := ⟨fun h hI => rep_mono hI _ _ h⟩
instance : RepLen Rp 3 := ⟨fun {I x cs} h => by cases x; obtain ⟨_, kv, css, rfl, _⟩ := h; rfl⟩
theorem rep_iff {I : Mem} {n : Nd} {cs : List Value} : rep I n cs ↔ I64 n.id ∧ ∃ kv, cs = [vi n.id, .bool n.grp, kv] ∧ LsAt Rp I n.kids kv := by
 cases n with | mk i g ks =>
 constructor
 ·rintro ⟨h1, kv, css, h2, h3, h4⟩
  exact ⟨h1, kv, h2, css, h3, reps_all.1 h4⟩
 ·rintro ⟨h1, kv, h2, css, h3, h4⟩
  exact ⟨h1, kv, css, h2, h3, reps_all.2 h4⟩
end Nd
end Go.Tr

namespace Go.Proofs.YtggcpoleklcmkaaGreatDoor
open Go.Sl Go.Ls Go.Tr
attribute [local irreducible] WC WL WX WK WA WAK Val Ctr RunRes ResIs Rd At sl box pt Exit.then Exit.inBlock bodyPost Code.wp wpList
theorem kid_lt {nd : Nd} {N k : Nat} (hs : nd.size ≤ N + 1) (hk : k < nd.kids.length) : nd.kids[k].size ≤ N := by
 have := Nd.size_le_sizes (List.getElem_mem hk)
 cases nd with | mk i g ks =>
 simp only [Nd.size] at hs
 simp only [Nd.kids] at this
 show Nd.size (ks[k]'hk) ≤ N
 omega
theorem sizes_lt (nd : Nd) : nd.size = 1 + Nd.sizes nd.kids := by cases nd; rfl
theorem take1 {α : Type} (l : List α) (k : Nat) (h : k < l.length) : l.take (k + 1) = l.take k ++ [l[k]] := List.take_succ_eq_append_getElem h
theorem rSize (N : Nat) : ∀ (nd : Nd), nd.size ≤ N → ∀ (kv : Value) (I : Mem), nd.size ≤ 1099511627776 → I64 nd.id → LsAt Nd.Rp I nd.kids kv →
  Ctr Tryz.prog 31 [.agg #[vi nd.id, .bool nd.grp, kv]] I [] (Still I fun v => v = vi nd.size) := by
 induction N with
 | zero => intro nd h; have := nd.size_pos; omega
 | succ N ih =>
  intro nd hs kv I hb hid hkv
  have hlen := hkv.le
  have hsz := sizes_lt nd
  have hkv0 := hkv
  obtain ⟨a1, c1, rfl⟩ := hkv.sl
  refine Ctr.intro Tryz.func31 rfl rfl rfl fun E F => ?_
  refine jS (WL.boxA rfl rfl (fun _ => ?_))
  refine jW ?_
  refine jf rfl (jN (jf rfl (jM (jB (jS (jf rfl (jM (WC.block ?_))))))))
  rename_i g
  refine WC.loop (fun n ρ' I' L' => ∃ k : Nat, n = nd.kids.length - k ∧ k ≤ nd.kids.length ∧ I' = I ∧ ρ' 1 = ptr g ∧ ρ' 3 = vi ((1 + Nd.sizes (nd.kids.take k) : Nat) : Int) ∧ ρ' 4 = vi k ∧ L' = [F, box g 77 [vi nd.id, .bool nd.grp, .slice a1 nd.kids.length c1]])
   nd.kids.length ⟨0, rfl, by omega, rfl, rfl, rfl, rfl, rfl⟩ ?_
  rintro n ρ' I0 L' ⟨k, rfl, hk, rfl, h1, h3, h4, rfl⟩
  refine ju3 h4 h3 h1 ?_
  by_cases hkn : k < nd.kids.length
  ·obtain ⟨b, off, cap', cs, he, hR, hA⟩ := hkv.get k hkn
   cases he
   obtain ⟨hi, kv', rfl, hks⟩ := Nd.rep_iff.1 hR
   have hst := Nd.sizes_take nd.kids (k + 1)
   have hks0 := hks
   obtain ⟨a2, c2, rfl⟩ := hks.sl
   have htk : Nd.sizes (nd.kids.take (k + 1)) = Nd.sizes (nd.kids.take k) + nd.kids[k].size := by rw [take1 _ _ hkn, Nd.sizes_app]; simp [Nd.sizes]
   have hbk : nd.kids[k].size ≤ 1099511627776 := by omega
   refine jB (jS (ja rfl (jm (jn rfl) (jm (jp 1 rfl rfl rfl) (jm (jo rfl) (jy rfl rfl (jM (jF (jV (jA (jB (WC.block (jD (ja rfl (jm (jn rfl) (jm (jp 1 rfl rfl rfl) (ja rfl (jm (jZ rfl rfl) (jm (Val.loadI rfl (by assumption) rfl) ?_)))))))))))))))))))
   refine WL.callS rfl rfl (ih _ (kid_lt hs hkn) _ _ hbk hi hks) rfl ?_
   rintro _ rfl
   refine jX rfl rfl (jf rfl (jC (WX.inNormal (jA (jD (ja rfl (jX rfl rfl (jf rfl (jC ?_)))))))))
   refine WX.thenK (WK.round (nd.kids.length - (k + 1)) (by omega) ⟨k + 1, rfl, by omega, rfl, rfl, ?_, rfl, rfl⟩)
   show vi _ = vi _
   congr 1
   omega
  ·skip
   refine jB (jS (ja rfl (jm (jn rfl) (jm (jp 1 rfl rfl rfl) (jm (jo rfl) (jx rfl rfl (jM (jE (WC.exit (WX.thenExit (WX.thenExit (WX.inHit (jK (ja rfl (jf rfl (jM (jR ?_)))))))))))))))))
   refine jP [] (jr1 rfl (jtI rfl)) ?_
   refine ⟨rfl, rfl, ?_⟩
   have : k = nd.kids.length := by omega
   rw [hsz, this, List.take_length]
theorem rHeight  (N : Nat) : ∀ (nd : Nd), nd.size ≤ N → ∀ (kv : Value) (I : Mem), nd.size ≤ 1099511627776 → I64 nd.id → LsAt Nd.Rp I nd.kids kv →
  Ctr Tryz.prog 135 [.agg #[vi nd.id, .bool nd.grp, kv]] I [] (Still I fun v => v = vi nd.height) := by
 induction N with
 | zero => intro nd h; have := nd.size_pos; omega
 | succ N ih =>
  intro nd hs kv I hb hid hkv
  have hlen := hkv.le
  have hsz := sizes_lt nd
  have hll := Nd.len_le_sizes nd.kids
  have hkv0 := hkv
  obtain ⟨a1, c1, rfl⟩ := hkv.sl
  refine Ctr.intro Tryz.func135 rfl rfl rfl fun E F => ?_
  have hhl := Nd.height_le nd
  refine jS (WL.boxA rfl rfl (fun _ => ?_))
  refine jW ?_
  refine jf rfl (jN (jf rfl (jM (jB (jS (jf rfl (jM (WC.block ?_))))))))
  rename_i g
  refine WC.loop (fun n ρ' I' L' => ∃ k : Nat, n = nd.kids.length - k ∧ k ≤ nd.kids.length ∧ I' = I ∧ ρ' 1 = ptr g ∧ ρ' 3 = vi ((Nd.heights (nd.kids.take k) : Nat) : Int) ∧ ρ' 4 = vi k ∧ L' = [F, box g 77 [vi nd.id, .bool nd.grp, .slice a1 nd.kids.length c1]])
   nd.kids.length ⟨0, rfl, by omega, rfl, rfl, rfl, rfl, rfl⟩ ?_
  rintro n ρ' I0 L' ⟨k, rfl, hk, rfl, h1, h3, h4, rfl⟩
  refine ju3 h4 h3 h1 ?_
  by_cases hkn : k < nd.kids.length
  ·obtain ⟨b, off, cap', cs, he, hR, hA⟩ := hkv.get k hkn
   cases he
   obtain ⟨hi, kv', rfl, hks⟩ := Nd.rep_iff.1 hR
   have hks0 := hks
   obtain ⟨a2, c2, rfl⟩ := hks.sl
   have hst := Nd.sizes_take nd.kids (k + 1)
   have hbk : nd.kids[k].size ≤ 1099511627776 := by have := kid_lt hs hkn; have := Nd.size_le_sizes (List.getElem_mem hkn); omega
   have htk : Nd.heights (nd.kids.take (k + 1)) = max (Nd.heights (nd.kids.take k)) nd.kids[k].height := by rw [take1 _ _ hkn, Nd.heights_app]; simp [Nd.heights]
   refine jB (jS (ja rfl (jm (jn rfl) (jm (jp 1 rfl rfl rfl) (jm (jo rfl) (jy rfl rfl (jM (jF (jV (jA (jB (WC.block (jS (jm (jn rfl) (jm (jp 1 rfl rfl rfl) (ja rfl (jm (jZ rfl rfl) (jm (Val.loadI rfl (by assumption) rfl) ?_))))))))))))))))))
   refine WL.callS rfl rfl (ih _ (kid_lt hs hkn) _ _ hbk hi hks) rfl ?_
   rintro _ rfl
   refine jf rfl (jN (ja rfl (ja rfl ?_)))
   refine WL.gtI rfl rfl rfl (fun h => ?_) (fun h => ?_)
   refine jM (jF (jD (ja rfl (jf rfl (jC (WX.inNormal (jA (jD (ja rfl (jX rfl rfl (jf rfl (jC ?_))))))))))))
   ·refine WX.thenK (WK.round (nd.kids.length - (k + 1)) (by omega) ⟨k + 1, rfl, by omega, rfl, rfl, ?_, rfl, rfl⟩)
    show vi _ = vi _
    congr 1
    omega
   ·skip
    refine jM (jE (jV (WX.inNormal (jA (jD (ja rfl (jX rfl rfl (jf rfl (jC ?_)))))))))
    refine WX.thenK (WK.round (nd.kids.length - (k + 1)) (by omega) ⟨k + 1, rfl, by omega, rfl, rfl, ?_, rfl, rfl⟩)
    show vi _ = vi _
    congr 1
    omega
  ·have hkk : k = nd.kids.length := by omega
   rw [hkk, List.take_length]
   have hh : nd.height = Nd.heights nd.kids + 1 := by cases nd; rfl
   refine jB (jS (ja rfl (jm (jn rfl) (jm (jp 1 rfl rfl rfl) (jm (jo rfl) (jx rfl rfl (jM (jE (WC.exit (WX.thenExit (WX.thenExit (WX.inHit (jK (ja rfl (jX rfl rfl (jf rfl (jM (jR ?_))))))))))))))))))
   refine jP [] (jr1 rfl (jtI rfl)) ?_
   refine ⟨rfl, rfl, ?_⟩
   rw [hh]
   rfl
def Fnd (I : Mem) (r : Option Nd) : Value → Prop := fun v => (∃ m kv, r = some m ∧ v = .tuple #[.agg #[vi m.id, .bool m.grp, kv], .bool true] ∧ I64 m.id ∧ LsAt Nd.Rp I m.kids kv) ∨ (r = none ∧ v = .tuple #[.agg #[vi 0, .bool false, .slice none 0 0], .bool false])
theorem rFind (i : Int) (N : Nat) : ∀ (nd : Nd), nd.size ≤ N → ∀ (kv : Value) (I : Mem), nd.size ≤ 1099511627776 → I64 nd.id → LsAt Nd.Rp I nd.kids kv →
  Ctr Tryz.prog 127 [.agg #[vi nd.id, .bool nd.grp, kv], vi i] I [] (Still I (Fnd I (Nd.find i nd))) := by
 induction N with
 | zero => intro nd h; have := nd.size_pos; omega
 | succ N ih =>
  intro nd hs kv I hb hid hkv
  have hlen := hkv.le
  have hsz := sizes_lt nd
  have hll := Nd.len_le_sizes nd.kids
  have hkv0 := hkv
  obtain ⟨a1, c1, rfl⟩ := hkv.sl
  refine Ctr.intro Tryz.func127 rfl rfl rfl fun E F => ?_
  by_cases hq : nd.id = i
  ·skip
   refine jS (WL.boxA rfl rfl (fun _ => ?_))
   refine jW ?_
   refine WL.alloc rfl (fun _ => ?_)
   refine jW ?_
   refine jg rfl (jM (jB (jS (jm (jn rfl) (jm (jp 1 rfl rfl rfl) (ja rfl (jw rfl rfl (jM (jF (jS (jm (jt 1 rfl rfl rfl) (WL.stA 2 rfl rfl rfl rfl ?_))))))))))))
   refine jg rfl (jM (jR (jU ?_)))
   refine jP [] (jr2 rfl (jcL 2 rfl rfl rfl) (jtB rfl)) ?_
   refine ⟨rfl, rfl, .inl ⟨nd, _, ?_, rfl, hid, hkv⟩⟩
   cases nd with | mk j g ks =>
   exact if_pos hq
  have hfd : Nd.find i nd = Nd.finds i nd.kids := by
   cases nd with | mk j g ks =>
   exact if_neg hq
  refine jS (WL.boxA rfl rfl (fun _ => ?_))
  refine jW ?_
  refine WL.alloc rfl (fun _ => ?_)
  refine jW ?_
  refine jg rfl (jM (jB (jS (jm (jn rfl) (jm (jp 1 rfl rfl rfl) (ja rfl (jv rfl rfl (jM (jE (jV (jA (jB (jS (jf rfl (jM (WC.block ?_))))))))))))))))
  rename_i g g2
  refine WC.loop (fun n ρ' I' L' => ∃ k : Nat, n = nd.kids.length - k ∧ k ≤ nd.kids.length ∧ I' = I ∧ ρ' 1 = vi i ∧ ρ' 2 = ptr g ∧ ρ' 4 = ptr g2 ∧ ρ' 6 = vi k ∧ L' = [F, box g 77 [vi nd.id, .bool nd.grp, .slice a1 nd.kids.length c1], box g2 77 [vi 0, .bool false, .slice none 0 0]] ∧ Nd.finds i (nd.kids.take k) = none)
   nd.kids.length ⟨0, rfl, by omega, rfl, rfl, rfl, rfl, rfl, rfl, rfl⟩ ?_
  rintro n ρ' I0 L' ⟨k, rfl, hk, rfl, h1, h2, h4, h6, rfl, hno⟩
  refine ju4 h6 h4 h2 h1 ?_
  by_cases hkn : k < nd.kids.length
  ·obtain ⟨b, off, cap', cs, he, hR, hA⟩ := hkv.get k hkn
   cases he
   obtain ⟨hi, kv', rfl, hks⟩ := Nd.rep_iff.1 hR
   have hks0 := hks
   obtain ⟨a2, c2, rfl⟩ := hks.sl
   have hst := Nd.sizes_take nd.kids (k + 1)
   have hbk : nd.kids[k].size ≤ 1099511627776 := by have := kid_lt hs hkn; have := Nd.size_le_sizes (List.getElem_mem hkn); omega
   have htk : Nd.finds i (nd.kids.take (k + 1)) = Nd.find i nd.kids[k] := by rw [take1 _ _ hkn, Nd.finds_app, hno]; simp [Nd.finds]
   refine jB (jS (ja rfl (jm (jn rfl) (jm (jp 1 rfl rfl rfl) (jm (jo rfl) (jy rfl rfl (jM (jF (jV (jA (jB (WC.block (jS (jm (jn rfl) (jm (jp 1 rfl rfl rfl) (ja rfl (jm (jZ rfl rfl) (jm (Val.loadI rfl (by assumption) rfl) ?_))))))))))))))))))
   refine ja rfl (WL.callS rfl rfl (ih _ (kid_lt hs hkn) _ _ hbk hi hks) rfl ?_)
   rintro _ (⟨m, mv, hm, rfl, him, hmk⟩ | ⟨hm, rfl⟩)
   ·have hmk0 := hmk
    obtain ⟨a3, c3, rfl⟩ := hmk.sl
    refine je rfl (jm (Val.extractA rfl rfl) (jm (Val.extractB rfl rfl) (WL.alloc rfl (fun _ => ?_))))
    refine jW ?_
    refine WL.stA 3 rfl rfl rfl rfl ?_
    refine jg rfl (jN (jb rfl (jM (jF (jS (jm (jt 3 rfl rfl rfl) (WL.stA 2 rfl rfl rfl rfl ?_)))))))
    refine jg rfl (jM (jR (WX.inRet (jU (jU (WX.inRet (jU ?_)))))))
    refine jP [] (jr2 rfl (jcL 2 rfl rfl rfl) (jtB rfl)) ?_
    refine ⟨rfl, rfl, .inl ⟨m, _, ?_, rfl, him, hmk⟩⟩
    have h1 := (List.take_append_drop (k + 1) nd.kids).symm
    rw [hfd, h1, Nd.finds_app, htk, hm]
    rfl
   ·skip
    refine je rfl (jm (Val.extractA rfl rfl) (jm (Val.extractB rfl rfl) (WL.alloc rfl (fun _ => ?_))))
    refine jW ?_
    refine WL.stA 3 rfl rfl rfl rfl ?_
    exact jg rfl (jN (jb rfl (jM (jE (jV (WX.inNormal (jA (jD (ja rfl (jX rfl rfl (jf rfl (jC (WX.conv (fun w h => h.sub [0, 0, 0] rfl) (WX.thenK (WK.round (nd.kids.length - (k + 1)) (by omega) ⟨k + 1, rfl, by omega, rfl, rfl, rfl, rfl, rfl, rfl, htk.trans hm⟩)))))))))))))))
  ·skip
   refine jB (jS (ja rfl (jm (jn rfl) (jm (jp 1 rfl rfl rfl) (jm (jo rfl) (jx rfl rfl (jM (jE (WC.exit (WX.thenExit (WX.thenExit (WX.inHit (jK (jm (Val.build0) ?_))))))))))))))
   refine WL.stA 2 rfl rfl rfl rfl ?_
   refine jg rfl (jM (jR ?_))
   refine jP [] (jr2 rfl (jcL 2 rfl rfl rfl) (jtB rfl)) ?_
   refine ⟨rfl, rfl, .inr ⟨?_, rfl⟩⟩
   have : k = nd.kids.length := by omega
   rw [this, List.take_length] at hno
   rw [hfd, hno]
theorem rHas (i : Int) (nd : Nd) (kv : Value) (I : Mem) (hb : nd.size ≤ 1099511627776) (hid : I64 nd.id) (hkv : LsAt Nd.Rp I nd.kids kv) :
  Ctr Tryz.prog 134 [.agg #[vi nd.id, .bool nd.grp, kv], vi i] I [] (Still I fun v => v = .bool (Nd.find i nd).isSome) := by
 have hkv0 := hkv
 obtain ⟨a1, c1, rfl⟩ := hkv.sl
 refine Ctr.intro Tryz.func134 rfl rfl rfl fun E F => ?_
 refine jS (WL.boxA rfl rfl (fun _ => ?_))
 refine jW ?_
 refine jg rfl (jN (jm (jt 1 rfl rfl rfl) (ja rfl (WL.callS rfl rfl (rFind i _ nd (Nat.le_refl _) _ _ hb hid hkv) rfl ?_))))
 rintro _ (⟨m, mv, hm, rfl, him, hmk⟩ | ⟨hm, rfl⟩)
 ·have hmk0 := hmk
  obtain ⟨a3, c3, rfl⟩ := hmk.sl
  refine je rfl (jm (Val.extractA rfl rfl) (jm (Val.extractB rfl rfl) (WL.alloc rfl (fun _ => ?_))))
  refine jW ?_
  refine WL.stA 2 rfl rfl rfl rfl ?_
  refine jg rfl (jN (jb rfl (jg rfl (jM (jR ?_)))))
  exact jP [] (jr1 rfl (jtB rfl)) ⟨rfl, rfl, by rw [hm]; rfl⟩
 ·skip
  refine je rfl (jm (Val.extractA rfl rfl) (jm (Val.extractB rfl rfl) (WL.alloc rfl (fun _ => ?_))))
  refine jW ?_
  refine WL.stA 2 rfl rfl rfl rfl ?_
  refine jg rfl (jN (jb rfl (jg rfl (jM (jR ?_)))))
  exact jP [] (jr1 rfl (jtB rfl)) ⟨rfl, rfl, by rw [hm]; rfl⟩
theorem rDepth (i : Int) (N : Nat) : ∀ (nd : Nd), nd.size ≤ N → ∀ (kv : Value) (I : Mem), nd.size ≤ 1099511627776 → I64 nd.id → LsAt Nd.Rp I nd.kids kv →
  Ctr Tryz.prog 129 [.agg #[vi nd.id, .bool nd.grp, kv], vi i] I [] (Still I fun v => v = vi (Nd.depth i nd)) := by
 induction N with
 | zero => intro nd h; have := nd.size_pos; omega
 | succ N ih =>
  intro nd hs kv I hb hid hkv
  have hlen := hkv.le
  have hsz := sizes_lt nd
  have hll := Nd.len_le_sizes nd.kids
  have hkv0 := hkv
  obtain ⟨a1, c1, rfl⟩ := hkv.sl
  refine Ctr.intro Tryz.func129 rfl rfl rfl fun E F => ?_
  by_cases hq : nd.id = i
  ·skip
   refine jS (WL.boxA rfl rfl (fun _ => ?_))
   refine jW ?_
   refine jf rfl (jM (jB (jS (jm (jn rfl) (jm (jp 1 rfl rfl rfl) (ja rfl (jw rfl rfl (jM (jF (jS (jf rfl (jM (jR (jU ?_))))))))))))))
   refine jP [] (jr1 rfl (jtI rfl)) ?_
   refine ⟨rfl, rfl, ?_⟩
   cases nd with | mk j g ks =>
   exact (congrArg vi (if_pos hq)).symm
  have hfd : Nd.depth i nd = Nd.depths i nd.kids := by
   cases nd with | mk j g ks =>
   exact if_neg hq
  refine jS (WL.boxA rfl rfl (fun _ => ?_))
  refine jW ?_
  refine jf rfl (jM (jB (jS (jm (jn rfl) (jm (jp 1 rfl rfl rfl) (ja rfl (jv rfl rfl (jM (jE (jV (jA (jB (jS (jf rfl (jM (WC.block ?_))))))))))))))))
  rename_i g
  refine WC.loop (fun n ρ' I' L' => ∃ k : Nat, n = nd.kids.length - k ∧ k ≤ nd.kids.length ∧ I' = I ∧ ρ' 1 = vi i ∧ ρ' 2 = ptr g ∧ ρ' 5 = vi k ∧ L' = [F, box g 77 [vi nd.id, .bool nd.grp, .slice a1 nd.kids.length c1]] ∧ Nd.depths i (nd.kids.take k) = -1)
   nd.kids.length ⟨0, rfl, by omega, rfl, rfl, rfl, rfl, rfl, rfl⟩ ?_
  rintro n ρ' I0 L' ⟨k, rfl, hk, rfl, h1, h2, h5, rfl, hno⟩
  refine ju3 h5 h2 h1 ?_
  by_cases hkn : k < nd.kids.length
  ·obtain ⟨b, off, cap', cs, he, hR, hA⟩ := hkv.get k hkn
   cases he
   obtain ⟨hi, kv', rfl, hks⟩ := Nd.rep_iff.1 hR
   have hks0 := hks
   obtain ⟨a2, c2, rfl⟩ := hks.sl
   have hst := Nd.sizes_take nd.kids (k + 1)
   have hbk : nd.kids[k].size ≤ 1099511627776 := by have := kid_lt hs hkn; have := Nd.size_le_sizes (List.getElem_mem hkn); omega
   have htk : Nd.depths i (nd.kids.take (k + 1)) = if 0 ≤ Nd.depth i nd.kids[k] then Nd.depth i nd.kids[k] + 1 else -1 := by rw [take1 _ _ hkn, Nd.depths_app, hno]; simp [Nd.depths]
   have hdl := Nd.depth_le i nd.kids[k]
   refine jB (jS (ja rfl (jm (jn rfl) (jm (jp 1 rfl rfl rfl) (jm (jo rfl) (jy rfl rfl (jM (jF (jV (jA (jB (WC.block (jS (jm (jn rfl) (jm (jp 1 rfl rfl rfl) (ja rfl (jm (jZ rfl rfl) (jm (Val.loadI rfl (by assumption) rfl) ?_))))))))))))))))))
   refine ja rfl (WL.callS rfl rfl (ih _ (kid_lt hs hkn) _ _ hbk hi hks) rfl ?_)
   rintro _ rfl
   refine jf rfl (jN (ja rfl ?_))
   refine WL.geI rfl rfl rfl (fun h => ?_) (fun h => ?_)
   refine jM (jF (jS (ja rfl (jX rfl rfl (jf rfl (jM (jR (WX.inRet (jU (jU (WX.inRet (jU ?_))))))))))))
   ·skip
    refine jP [] (jr1 rfl (jtI rfl)) ?_
    refine ⟨rfl, rfl, ?_⟩
    have h1 := congrArg (Nd.depths i) (List.take_append_drop (k + 1) nd.kids).symm
    rw [Nd.depths_app, htk, if_pos h, if_pos (by omega)] at h1
    rw [hfd, h1]
   ·skip
    refine jM (jE (jV (WX.inNormal (jA (jD (ja rfl (jX rfl rfl (jf rfl (jC ?_)))))))))
    refine WX.thenK (WK.round (nd.kids.length - (k + 1)) (by omega) ⟨k + 1, rfl, by omega, rfl, rfl, rfl, rfl, rfl, ?_⟩)
    rw [htk, if_neg (by omega)]
  ·skip
   refine jB (jS (ja rfl (jm (jn rfl) (jm (jp 1 rfl rfl rfl) (jm (jo rfl) (jx rfl rfl (jM (jE (WC.exit (WX.thenExit (WX.thenExit (WX.inHit (jK (jf rfl (jM (jR ?_))))))))))))))))
   refine jP [] (jr1 rfl (jtI rfl)) ?_
   refine ⟨rfl, rfl, ?_⟩
   have : k = nd.kids.length := by omega
   rw [this, List.take_length] at hno
   rw [hfd, hno]
def WhrP (r : Option (Int × Int)) : Value → Prop := fun v => (∃ p i, r = some (p, i) ∧ v = .tuple #[vi p, vi i, .bool true]) ∨ (r = none ∧ v = .tuple #[vi 0, vi 0, .bool false])
theorem rWhere (i : Int) (N : Nat) : ∀ (nd : Nd), nd.size ≤ N → ∀ (kv : Value) (I : Mem), nd.size ≤ 1099511627776 → I64 nd.id → LsAt Nd.Rp I nd.kids kv →
  Ctr Tryz.prog 133 [.agg #[vi nd.id, .bool nd.grp, kv], vi i] I [] (Still I (WhrP (Nd.whr i nd))) := by
 induction N with
 | zero => intro nd h; have := nd.size_pos; omega
 | succ N ih =>
  intro nd hs kv I hb hid hkv
  have hlen := hkv.le
  have hsz := sizes_lt nd
  have hll := Nd.len_le_sizes nd.kids
  have hkv0 := hkv
  obtain ⟨a1, c1, rfl⟩ := hkv.sl
  refine Ctr.intro Tryz.func133 rfl rfl rfl fun E F => ?_
  have hfd : Nd.whr i nd = Nd.whrs i nd.id 0 nd.kids := by cases nd; rfl
  refine jS (WL.boxA rfl rfl (fun _ => ?_))
  refine jW ?_
  refine jf rfl (jf rfl (jg rfl (jM (jB (jS (jf rfl (jM (WC.block ?_))))))))
  rename_i g
  refine WC.loop (fun n ρ' I' L' => ∃ k : Nat, n = nd.kids.length - k ∧ k ≤ nd.kids.length ∧ I' = I ∧ ρ' 1 = vi i ∧ ρ' 2 = ptr g ∧ ρ' 7 = vi k ∧ L' = [F, box g 77 [vi nd.id, .bool nd.grp, .slice a1 nd.kids.length c1]] ∧ Nd.whrs i nd.id 0 (nd.kids.take k) = none)
   nd.kids.length ⟨0, rfl, by omega, rfl, rfl, rfl, rfl, rfl, rfl⟩ ?_
  rintro n ρ' I0 L' ⟨k, rfl, hk, rfl, h1, h2, h7, rfl, hno⟩
  refine ju3 h7 h2 h1 ?_
  by_cases hkn : k < nd.kids.length
  ·obtain ⟨b, off, cap', cs, he, hR, hA⟩ := hkv.get k hkn
   cases he
   obtain ⟨hi, kv', rfl, hks⟩ := Nd.rep_iff.1 hR
   have hks0 := hks
   obtain ⟨a2, c2, rfl⟩ := hks.sl
   have hst := Nd.sizes_take nd.kids (k + 1)
   have hbk : nd.kids[k].size ≤ 1099511627776 := by have := kid_lt hs hkn; have := Nd.size_le_sizes (List.getElem_mem hkn); omega
   have htk : Nd.whrs i nd.id 0 (nd.kids.take (k + 1)) = if nd.kids[k].id = i then some (nd.id, (k : Int)) else Nd.whr i nd.kids[k] := by
    rw [take1 _ _ hkn, Nd.whrs_app, hno]
    simp [Nd.whrs, Nat.min_eq_left hk]
   have hget : ∀ r, Nd.whrs i nd.id 0 (nd.kids.take (k + 1)) = some r → Nd.whr i nd = some r := fun r hr => by
    have h1 := (List.take_append_drop (k + 1) nd.kids).symm
    rw [hfd, h1, Nd.whrs_app, hr]
    rfl
   by_cases hq : nd.kids[k].id = i
   ·skip
    refine jB (jS (ja rfl (jm (jn rfl) (jm (jp 1 rfl rfl rfl) (jm (jo rfl) (jy rfl rfl (jM (jF (jV (jA (jB (WC.block (jB (jS (jm (jn rfl) (jm (jp 1 rfl rfl rfl) (ja rfl (jm (jZ rfl rfl) (jm (jn rfl) (jm (Val.loadS rfl (Rd.imm (At.zero (by assumption) rfl))) ?_))))))))))))))))))))
    refine ja rfl (jw rfl rfl (jM (jF (jS (jm (jn rfl) (jm (jp 1 rfl rfl rfl) (ja rfl (jf rfl (jf rfl (jg rfl (jM (jR (jU (WX.inRet (jU (jU (WX.inRet (jU ?_))))))))))))))))))
    exact jP [] (jr3 rfl (jtI rfl) (jtI rfl) (jtB rfl)) ⟨rfl, rfl, .inl ⟨nd.id, k, hget _ (by rw [htk, if_pos hq]), rfl⟩⟩
   refine jB (jS (ja rfl (jm (jn rfl) (jm (jp 1 rfl rfl rfl) (jm (jo rfl) (jy rfl rfl (jM (jF (jV (jA (jB (WC.block (jB (jS (jm (jn rfl) (jm (jp 1 rfl rfl rfl) (ja rfl (jm (jZ rfl rfl) (jm (jn rfl) (jm (Val.loadS rfl (Rd.imm (At.zero (by assumption) rfl))) ?_))))))))))))))))))))
   refine ja rfl (jv rfl rfl (jM (jE (jV (jK (jm (jn rfl) (jm (jp 1 rfl rfl rfl) (ja rfl (jm (jZ rfl rfl) (jm (Val.loadI rfl (by assumption) rfl) ?_))))))))))
   refine ja rfl (WL.callS rfl rfl (ih _ (kid_lt hs hkn) _ _ hbk hi hks) rfl ?_)
   rintro _ (⟨p, j, hm, rfl⟩ | ⟨hm, rfl⟩)
   ·skip
    refine je rfl (jm (jq rfl rfl) (jm (jq rfl rfl) (jm (Val.extractB rfl rfl) (jf rfl (jf rfl (jg rfl (jN (jb rfl (jM (jF (jS (ja rfl (ja rfl (jb rfl (jf rfl (jf rfl (jg rfl (jM (jR (WX.inRet (jU (jU (WX.inRet (jU ?_))))))))))))))))))))))))
    exact jP [] (jr3 rfl (jtI rfl) (jtI rfl) (jtB rfl)) ⟨rfl, rfl, .inl ⟨p, j, hget _ (by rw [htk, if_neg hq, hm]), rfl⟩⟩
   ·skip
    exact je rfl (jm (jq rfl rfl) (jm (jq rfl rfl) (jm (Val.extractB rfl rfl) (jf rfl (jf rfl (jg rfl (jN (jb rfl (jM (jE (jV (WX.inNormal (jA (jD (ja rfl (jX rfl rfl (jf rfl (jC (WX.thenK (WK.round (nd.kids.length - (k + 1)) (by omega) ⟨k + 1, rfl, by omega, rfl, rfl, rfl, rfl, rfl, by rw [htk, if_neg hq, hm]⟩))))))))))))))))))))
  ·skip
   refine jB (jS (ja rfl (jm (jn rfl) (jm (jp 1 rfl rfl rfl) (jm (jo rfl) (jx rfl rfl (jM (jE (WC.exit (WX.thenExit (WX.thenExit (WX.inHit (jK (jf rfl (jf rfl (jg rfl (jM (jR ?_))))))))))))))))))
   refine jP [] (jr3 rfl (jtI rfl) (jtI rfl) (jtB rfl)) ?_
   refine ⟨rfl, rfl, .inr ⟨?_, rfl⟩⟩
   have : k = nd.kids.length := by omega
   rw [this, List.take_length] at hno
   rw [hfd, hno]
end Go.Proofs.YtggcpoleklcmkaaGreatDoor

namespace Go.Tr
open Go.Sl Go.Ls
def Rl : Rep (List Nd) := fun I l cs => ∃ kv, cs = [kv] ∧ LsAt Nd.Rp I l kv
instance : RepMono Rl := ⟨fun ⟨kv, h1, h2⟩ hI => ⟨kv, h1, h2.mono hI⟩⟩
instance : RepLen Rl 1 := ⟨fun ⟨kv, h, _⟩ => by rw [h]; rfl⟩
def RetN (n : Nd) : Value → Mem → List HP → Prop := fun v I' L' => L' = [] ∧ ∃ kv, v = .agg #[vi n.id, .bool n.grp, kv] ∧ LsAt Nd.Rp I' n.kids kv
theorem with_id (i : Int) (l : List Nd) (n : Nd) : (Nd.with_ i l n).id = n.id ∧ (Nd.with_ i l n).grp = n.grp := by cases n; exact ⟨rfl, rfl⟩
theorem with_kids (i : Int) (l : List Nd) (n : Nd) : (Nd.with_ i l n).kids = if n.id = i then l else Nd.withs i l n.kids := by cases n; rfl
end Go.Tr
namespace Go.Proofs.YtggcpoleklcmkaaGreatDoor
open Go.Sl Go.Ls Go.Tr
attribute [local irreducible] WC WL WX WK WA WAK Val Ctr RunRes ResIs Rd At sl box pt Exit.then Exit.inBlock bodyPost Code.wp wpList
theorem kid_sz {nd : Nd} {k : Nat} (hk : k < nd.kids.length) : nd.kids[k].size ≤ Nd.sizes nd.kids := Nd.size_le_sizes (List.getElem_mem hk)
theorem rWith (i : Int) (l : List Nd) (N : Nat) : ∀ (nd : Nd), nd.size ≤ N → ∀ (kv lv : Value) (I : Mem), nd.size ≤ 1099511627776 → I64 nd.id → LsAt Nd.Rp I nd.kids kv → LsAt Nd.Rp I l lv →
  Ctr Tryz.prog 130 [.agg #[vi nd.id, .bool nd.grp, kv], vi i, lv] I [] (RetN (Nd.with_ i l nd)) := by
 induction N with
 | zero => intro nd h; have := nd.size_pos; omega
 | succ N ih =>
  intro nd hs kv lv I hb hid hkv hlv
  have hlen := hkv.le
  have hsz := sizes_lt nd
  have hll := Nd.len_le_sizes nd.kids
  have hlv0 := hlv
  obtain ⟨a1, c1, rfl⟩ := hkv.sl
  obtain ⟨a9, c9, rfl⟩ := hlv.sl
  refine Ctr.intro Tryz.func130 rfl rfl rfl fun E F => ?_
  refine jS (WL.boxA rfl rfl (fun _ => ?_))
  refine jW ?_
  refine WL.alloc rfl (fun _ => ?_)
  refine jW ?_
  refine jN (jm (jn rfl) (jm (jp 1 rfl rfl rfl) (jm (jn rfl) (jm (jp 1 rfl rfl rfl) (jm (Val.build (cs := [vi nd.id, .bool nd.grp, .slice none 0 0]) rfl) ?_)))))
  by_cases hq : nd.id = i
  ·skip
   refine WL.alloc rfl (fun _ => ?_)
   refine jW ?_
   refine WL.stA 3 rfl rfl rfl rfl ?_
   refine jM (jB (jS (jm (jn rfl) (jm (jp 1 rfl rfl rfl) (ja rfl (jw rfl rfl (jM (jF (jS (jc rfl (jm (jn rfl) (WL.stS 3 rfl rfl rfl rfl ?_))))))))))))
   refine jN (jm (jt 3 rfl rfl rfl) (WL.stA 2 rfl rfl rfl rfl ?_))
   refine jM (jR (jU ?_))
   refine jP [] (jr1 rfl (jcL 2 rfl rfl rfl)) ?_
   refine ⟨rfl, .slice a9 l.length c9, ?_, ?_⟩
   ·rw [(with_id i l nd).1, (with_id i l nd).2]
   ·rw [with_kids, if_pos hq]; exact hlv
  refine WL.alloc rfl (fun _ => ?_)
  refine jW ?_
  refine WL.stA 3 rfl rfl rfl rfl ?_
  refine jM (jB (jS (jm (jn rfl) (jm (jp 1 rfl rfl rfl) (ja rfl (jv rfl rfl (jM (jE (jV (jA (jB (jS (jf rfl (jM (WC.block ?_)))))))))))))))
  rename_i g g2 g3
  refine WC.slNil 77 3 ?_
  refine WC.nApp ?_
  refine WC.loop (fun n ρ' I' L' => ∃ k : Nat, ∃ a cap p, n = nd.kids.length - k ∧ k ≤ nd.kids.length ∧ I.le I' ∧ ρ' 1 = vi i ∧ ρ' 2 = .slice a9 l.length c9 ∧ ρ' 3 = ptr g ∧ ρ' 6 = ptr g2 ∧ ρ' 7 = ptr g3 ∧ ρ' 8 = vi k ∧
    L' = [F, box g 77 [vi nd.id, .bool nd.grp, .slice a1 nd.kids.length c1], box g2 77 [vi 0, .bool false, .slice none 0 0], box g3 77 [vi nd.id, .bool nd.grp, .slice a k cap], p] ∧ OwnL Nd.Rp 77 3 I' (Nd.withs i l (nd.kids.take k)) (.slice a k cap) p)
   nd.kids.length ⟨0, _, _, _, rfl, by omega, Mem.le.refl _, rfl, rfl, rfl, rfl, rfl, rfl, rfl, [], rfl, trivial⟩ ?_
  rintro n ρ' I0 L' ⟨k, a, cap, p, rfl, hk, hI, h1, h2, h3, h6, h7, h8, rfl, hp⟩
  refine ju6 h8 h7 h6 h3 h2 h1 ?_
  have hwl : (Nd.withs i l (nd.kids.take k)).length = k := by rw [Nd.withs_len, List.length_take]; omega
  by_cases hkn : k < nd.kids.length
  ·obtain ⟨b, off, cap', cs, he, hR, hA⟩ := (hkv.mono hI).get k hkn
   cases he
   obtain ⟨hi, kv', rfl, hks⟩ := Nd.rep_iff.1 hR
   have hks0 := hks
   obtain ⟨a2, c2, rfl⟩ := hks.sl
   have hbk := kid_sz hkn
   have htk : Nd.withs i l (nd.kids.take (k + 1)) = Nd.withs i l (nd.kids.take k) ++ [Nd.with_ i l nd.kids[k]] := by rw [take1 _ _ hkn, Nd.withs_app]; simp [Nd.withs]
   refine jB (jS (ja rfl (jm (jn rfl) (jm (jp 1 rfl rfl rfl) (jm (jo rfl) (jy rfl rfl (jM (jF (jV (jA (jB (WC.block (j8 13 [1, 2] rfl (jT 0 rfl (jn rfl) (jT 1 rfl (jp 1 rfl rfl rfl) (jT 2 rfl (jn rfl) (jT 3 rfl (jp 0 rfl rfl rfl) (jT 4 rfl (Val.moveI rfl) (jT 5 rfl (jZ rfl rfl) (jT 6 rfl (Val.loadI rfl (by assumption) rfl) ?_))))))))))))))))))))
   refine jT 7 rfl (Val.moveI rfl) (jT 8 rfl (Val.moveS rfl) (j5 9 rfl (WL.callP [] rfl rfl (ih _ (kid_lt hs hkn) _ _ _ (by omega) hi hks (hlv.mono hI)) rfl ?_)))
   rintro v I2 _ hI2 ⟨rfl, kw, rfl, hw⟩
   have hw0 := hw
   obtain ⟨a3, c3, rfl⟩ := hw.sl
   refine jW ?_
   refine jC (j9 [1, 2] (hI2) rfl (j5 10 rfl (WL.buildSlice (by with_unfolding_all exact rfl) rfl (by with_unfolding_all exact rfl) rfl (fun _ => ?_))))
   rename_i g4
   refine jW ?_
   refine jC (j9 [1, 2] (hI2) rfl (j5 11 rfl (WL.appOne (y := Nd.with_ i l nd.kids[k]) (cs := [vi (Nd.with_ i l nd.kids[k]).id, .bool (Nd.with_ i l nd.kids[k]).grp, .slice a3 (Nd.with_ i l nd.kids[k]).kids.length c3]) 4 5 rfl rfl (hp.mono hI2) rfl rfl (Nd.rep_iff.2 ⟨by rw [(with_id i l _).1]; exact hi, _, rfl, hw⟩) rfl rfl (by rfl) (by decide) (by rw [hwl]; omega) (by rw [hwl]; unfold maxLen; omega) rfl fun aa cc p' hp' => ?_)))
   refine WL.nSet ?_
   refine jC (j9 [1, 2] (hI2) rfl (jT 12 rfl (jn rfl) (j5 13 rfl (WL.stS 3 rfl rfl rfl rfl ?_))))
   refine jC (WK.anyLast (WA.done (by kernel_rfl) (WX.inNormal (jA (jD (ja rfl (jX rfl rfl (jf rfl (jC ?_)))))))))
   rw [hwl] at hp' ⊢
   exact WX.conv (fun w h => h.sub [0, 0, 0, 0, 0] rfl) (WX.thenK (WK.round (nd.kids.length - (k + 1)) (by omega) ⟨k + 1, aa, cc, p', rfl, by omega, hI.trans hI2, rfl, rfl, rfl, rfl, rfl, rfl, rfl, by rw [htk]; exact hp'⟩))
  ·skip
   refine jB (jS (ja rfl (jm (jn rfl) (jm (jp 1 rfl rfl rfl) (jm (jo rfl) (jx rfl rfl (jM (jE (WC.exit (WX.thenExit (WX.thenExit (WX.inHit (jK (jm (jt 3 rfl rfl rfl) (WL.stA 2 rfl rfl rfl rfl ?_)))))))))))))))
   refine jM (jR (WX.freezeL 4 rfl hp fun I2 hI2 hv => ?_))
   have hJ := hI.trans hI2
   refine jP [] (jr1 rfl (jcL 2 rfl rfl rfl)) ?_
   have : k = nd.kids.length := by omega
   subst this
   rw [List.take_length] at hv
   refine ⟨rfl, .slice a nd.kids.length cap, ?_, ?_⟩
   ·rw [(with_id i l nd).1, (with_id i l nd).2]
   ·rw [with_kids, if_neg hq]; exact hv
theorem part_take {α : Type} (l : List α) (a k : Nat) (h : a + k < l.length) : (l.drop a).take (k + 1) = (l.drop a).take k ++ [l[a + k]] := by
 rw [List.take_succ_eq_append_getElem (by rw [List.length_drop]; omega), List.getElem_drop]
theorem rPart (l : List Nd) (lv : Value) (a b : Nat) (I : Mem) (hlv : LsAt Nd.Rp I l lv) (hab : a ≤ b) (hb : b ≤ l.length) (hl : l.length ≤ 1099511627776) :
  Ctr Tryz.prog 132 [lv, vi a, vi b] I [] (RetL Nd.Rp ((l.drop a).take (b - a))) := by
 obtain ⟨a1, c1, rfl⟩ := hlv.sl
 refine Ctr.intro Tryz.func132 rfl rfl rfl fun E F => ?_
 refine jS (jh rfl (jN (jh rfl (jM (jB (jS (ja rfl (jf rfl (jM (WC.block (WC.slNil 77 3 ?_)))))))))))
 refine WC.nApp ?_
 refine WC.loop (fun n ρ' I' L' => ∃ k : Nat, ∃ aa cap p, n = b - a - k ∧ k ≤ b - a ∧ I' = I ∧ ρ' 0 = .slice a1 l.length c1 ∧ ρ' 2 = vi b ∧ ρ' 7 = .slice aa k cap ∧ ρ' 8 = vi ((a + k : Nat) : Int) ∧ L' = [F, p] ∧ OwnL Nd.Rp 77 3 I' ((l.drop a).take k) (.slice aa k cap) p)
  (b - a) ⟨0, _, _, _, rfl, by omega, rfl, rfl, rfl, rfl, rfl, rfl, [], rfl, trivial⟩ ?_
 rintro n ρ' I0 L' ⟨k, aa, cap, p, rfl, hk, rfl, h0, h2, h7, h8, rfl, hp⟩
 refine ju4 h8 h7 h2 h0 ?_
 have hlen : ((l.drop a).take k).length = k := by rw [List.length_take, List.length_drop]; omega
 by_cases hkn : k < b - a
 ·obtain ⟨b1, off, cap', cs, he, hR, hA⟩ := hlv.get (a + k) (by omega)
  cases he
  have hR0 := hR
  obtain ⟨hi, kv', rfl, hks⟩ := Nd.rep_iff.1 hR
  obtain ⟨a2, c2, rfl⟩ := hks.sl
  refine jB (jS (ja rfl (ja rfl (jy rfl rfl (jM (jF (jV (jA (jB (WC.block (jD (jc rfl (jc rfl (ja rfl (jm (jZ rfl rfl) (jm (Val.loadI rfl (by assumption) rfl) ?_))))))))))))))))
  refine WL.buildSlice (by with_unfolding_all exact rfl) rfl (by with_unfolding_all exact rfl) rfl (fun _ => ?_)
  refine jW ?_
  refine WL.appOne (y := l[a + k]) (cs := [vi (l[a + k]).id, .bool (l[a + k]).grp, .slice a2 (l[a + k]).kids.length c2]) 1 2 rfl rfl hp rfl rfl hR0 rfl rfl (by rfl) (by decide) (by rw [hlen]; omega) (by rw [hlen]; unfold maxLen; omega) rfl fun a3 c3 p' hp' => ?_
  rw [hlen] at hp' ⊢
  refine WL.nSet ?_
  refine jh rfl (jC (WX.inNormal (jA (jD (ja rfl (jX rfl rfl (jf rfl (jC (WX.conv (fun w h => h.sub [0, 0] rfl) ?_)))))))))
  refine WX.thenK (WK.round (b - a - (k + 1)) (by omega) ⟨k + 1, a3, c3, p', rfl, by omega, rfl, rfl, rfl, rfl, ?_, rfl, by rw [part_take _ _ _ (by omega)]; exact hp'⟩)
  show vi _ = vi _
  congr 1
 ·skip
  refine jB (jS (ja rfl (ja rfl (jx rfl rfl (jM (jE (WC.exit (WX.thenExit (WX.thenExit (WX.inHit (jK (jc rfl (jh rfl (jM (jR (WX.freezeL 1 rfl hp fun I2 hI2 hv => ?_))))))))))))))))
  refine jP [] (jr1 rfl (jtS rfl)) ?_
  have : k = b - a := by omega
  rw [this] at hv ⊢
  exact ⟨rfl, hv⟩
theorem flat_take {α : Type} (ls : List (List α)) (j : Nat) (h : j < ls.length) : (ls.take (j + 1)).flatten = (ls.take j).flatten ++ ls[j] := by
 rw [List.take_succ_eq_append_getElem h, List.flatten_append]; simp
theorem flat_le {α : Type} (ls : List (List α)) (j : Nat) : ((ls.take j).flatten).length ≤ ls.flatten.length := by
 have := congrArg (fun x : List (List α) => x.flatten.length) (List.take_append_drop j ls).symm
 simp only [List.flatten_append, List.length_append] at this
 omega
theorem rJoin (ls : List (List Nd)) (lv : Value) (I : Mem) (hlv : LsAt Rl I ls lv) (hl : ls.flatten.length ≤ 1099511627776) :
  Ctr Tryz.prog 131 [lv] I [] (RetL Nd.Rp ls.flatten) := by
 have hll := hlv.le
 obtain ⟨a1, c1, rfl⟩ := hlv.sl
 refine Ctr.intro Tryz.func131 rfl rfl rfl fun E F => ?_
 refine jS (jh rfl (jN (jh rfl (jM (jB (jS (jf rfl (jM (WC.block (WC.slNil 77 3 ?_))))))))))
 refine WC.nApp ?_
 refine WC.loop (fun n ρ' I' L' => ∃ j : Nat, ∃ aa cap p, n = ls.length - j ∧ j ≤ ls.length ∧ I' = I ∧ ρ' 0 = .slice a1 ls.length c1 ∧ ρ' 3 = .slice aa ((ls.take j).flatten).length cap ∧ ρ' 4 = vi j ∧ L' = [F, p] ∧ OwnL Nd.Rp 77 3 I' (ls.take j).flatten (.slice aa ((ls.take j).flatten).length cap) p)
  ls.length ⟨0, _, _, _, rfl, by omega, rfl, rfl, rfl, rfl, rfl, [], rfl, trivial⟩ ?_
 rintro n ρ' I0 L' ⟨j, aa, cap, p, rfl, hj, rfl, h0, h3, h4, rfl, hp⟩
 refine ju3 h4 h3 h0 ?_
 by_cases hjn : j < ls.length
 ·obtain ⟨b, off, cap', cs, he, ⟨kv, rfl, hks⟩, hA⟩ := hlv.get j hjn
  cases he
  have hks0 := hks
  obtain ⟨a2, c2, rfl⟩ := hks.sl
  have hft := flat_take ls j hjn
  have hfl := flat_le ls (j + 1)
  rw [hft, List.length_append] at hfl
  refine jB (jS (ja rfl (jc rfl (jm (jo rfl) (jy rfl rfl (jM (jF (jV (jA (jB (WC.block (jS (jf rfl (jM (WC.block ?_)))))))))))))))
  refine WC.loop (fun n ρ' I' L' => ∃ k : Nat, ∃ aa cap p, n = ls[j].length - k ∧ k ≤ ls[j].length ∧ I' = I0 ∧ ρ' 0 = .slice (some ⟨b, off, none⟩) ls.length c1 ∧ ρ' 3 = .slice aa ((ls.take j).flatten ++ ls[j].take k).length cap ∧ ρ' 4 = vi j ∧ ρ' 5 = vi k ∧ L' = [F, p] ∧ OwnL Nd.Rp 77 3 I' ((ls.take j).flatten ++ ls[j].take k) (.slice aa ((ls.take j).flatten ++ ls[j].take k).length cap) p)
   ls[j].length ⟨0, aa, cap, p, rfl, by omega, rfl, rfl, by rw [List.take_zero, List.append_nil]; rfl, rfl, rfl, rfl, by rw [List.take_zero, List.append_nil]; exact hp⟩ ?_
  clear hp
  rintro n ρ' I1 L' ⟨k, aa, cap, p, rfl, hk, rfl, h0, h3, h4, h5, rfl, hp⟩
  refine ju4 h5 h4 h3 h0 ?_
  by_cases hkn : k < ls[j].length
  ·obtain ⟨b1, off1, cap1, cs, he, hR, hA1⟩ := hks.get k hkn
   cases he
   have hR0 := hR
   obtain ⟨hi, kv', rfl, hks'⟩ := Nd.rep_iff.1 hR
   obtain ⟨a4, c4, rfl⟩ := hks'.sl
   have htk : (ls.take j).flatten ++ ls[j].take (k + 1) = ((ls.take j).flatten ++ ls[j].take k) ++ [ls[j][k]] := by rw [take1 _ _ hkn, List.append_assoc]
   have hkl : (ls[j].take k).length = k := by rw [List.length_take]; omega
   have hln : ((ls.take j).flatten ++ ls[j].take k).length = ((ls.take j).flatten).length + k := by rw [List.length_append, hkl]
   have hln2 : ((ls.take j).flatten ++ ls[j].take (k + 1)).length = ((ls.take j).flatten ++ ls[j].take k).length + 1 := by rw [htk, List.length_append]; rfl
   refine jB (jS (ja rfl (jc rfl (ja rfl (jm (jZ rfl rfl) (jm (Val.loadS rfl (Rd.imm (by assumption))) ?_))))))
   refine jm (jo rfl) (jy rfl rfl (jM (jF (jV (jA (jB (WC.block (jD (jc rfl (jc rfl (ja rfl (jm (jZ rfl rfl) (jm (Val.loadS rfl (Rd.imm (by assumption))) ?_)))))))))))))
   refine ja rfl (jm (jZ rfl rfl) (jm (Val.loadI rfl (by assumption) rfl) ?_))
   refine WL.buildSlice (by with_unfolding_all exact rfl) rfl (by with_unfolding_all exact rfl) rfl (fun _ => ?_)
   refine jW ?_
   refine WL.appOne (y := ls[j][k]) (cs := [vi (ls[j][k]).id, .bool (ls[j][k]).grp, .slice a4 (ls[j][k]).kids.length c4]) 1 2 rfl rfl hp rfl rfl hR0 rfl rfl (by rfl) (by decide) (by omega) (by unfold maxLen; omega) rfl fun a3 c3 p' hp' => ?_
   refine WL.nSet ?_
   exact jh rfl (jC (WX.inNormal (jA (jD (ja rfl (jX rfl rfl (jf rfl (jC (WX.conv (fun w h => h.sub [0, 0] rfl) (WX.thenK (WK.round (ls[j].length - (k + 1)) (by omega) ⟨k + 1, a3, c3, p', rfl, by omega, rfl, rfl, by rw [hln2]; rfl, rfl, rfl, rfl, by rw [hln2, htk]; exact hp'⟩)))))))))))
  ·skip
   refine jB (jS (ja rfl (jc rfl (ja rfl (jm (jZ rfl rfl) (jm (Val.loadS rfl (Rd.imm (by assumption))) ?_))))))
   refine jm (jo rfl) (jx rfl rfl (jM (jE (WC.exit (WX.thenExit (WX.thenExit (WX.inHit (WX.inNormal (jA (jD (ja rfl (jX rfl rfl (jf rfl (jC ?_))))))))))))))
   have : k = ls[j].length := by omega
   rw [this, List.take_length, ← hft] at hp
   refine WX.thenK (WK.round (ls.length - (j + 1)) (by omega) ⟨j + 1, aa, cap, p, rfl, by omega, rfl, rfl, ?_, rfl, rfl, hp⟩)
   rw [this, List.take_length, ← hft]
   rfl
 ·skip
  refine jB (jS (ja rfl (jc rfl (jm (jo rfl) (jx rfl rfl (jM (jE (WC.exit (WX.thenExit (WX.thenExit (WX.inHit (jK (jc rfl (jh rfl (jM (jR (WX.freezeL 1 rfl hp fun I2 hI2 hv => ?_)))))))))))))))))
  refine jP [] (jr1 rfl (jtS rfl)) ?_
  have : j = ls.length := by omega
  rw [this, List.take_length] at hv ⊢
  exact ⟨rfl, hv⟩
end Go.Proofs.YtggcpoleklcmkaaGreatDoor

namespace Go.Tr
open Go.Sl Go.Ls
namespace Nd
mutual
def wrong (top : Nd) : Nd → List Int → Int → Int × List Int
 | .mk i g ks, seen, d => if i < 1 ∨ 2147483648 < i then (30, []) else if (find i top).isSome = true then (32, []) else if i ∈ seen then (32, []) else if g = false ∧ 0 < ks.length then (33, []) else if 64 < d then (35, []) else wrongs top ks (seen ++ [i]) (d + 1)
def wrongs (top : Nd) : List Nd → List Int → Int → Int × List Int
 | [], seen, _ => (0, seen)
 | k :: ks, seen, d => if (wrong top k seen d).1 = 0 then wrongs top ks (wrong top k seen d).2 d else ((wrong top k seen d).1, [])
end
theorem wrongs_app (top : Nd) (d : Int) : ∀ (a b : List Nd) (s : List Int), wrongs top (a ++ b) s d = if (wrongs top a s d).1 = 0 then wrongs top b (wrongs top a s d).2 d else ((wrongs top a s d).1, [])
 | [], b, s => by simp [wrongs]
 | x :: a, b, s => by
  simp only [List.cons_append, wrongs]
  by_cases h : (wrong top x s d).1 = 0
  ·simp only [h, if_true, wrongs_app top d a b]
  ·simp only [h, if_false]
def fits (top n : Nd) (d : Int) : Int := if 65536 < (top.size : Int) - 1 + n.size then 36 else (wrong top n [] d).1
theorem wrong_len (top : Nd) : ∀ (n : Nd) (s : List Int) (d : Int), (wrong top n s d).2.length ≤ s.length + n.size := by
 intro n
 refine Nd.rec (motive_1 := fun n => ∀ s d, (wrong top n s d).2.length ≤ s.length + n.size) (motive_2 := fun l => ∀ s d, (wrongs top l s d).2.length ≤ s.length + sizes l) ?_ ?_ ?_ n
 ·intro i g ks ih s d
  simp only [wrong, size]
  have := ih (s ++ [i]) (d + 1)
  simp only [List.length_append, List.length_cons, List.length_nil] at this
  repeat' (split; · simp only [List.length_nil]; omega)
  omega
 ·intro s d; simp [wrongs, sizes]
 ·intro k ks h1 h2 s d
  simp only [wrongs, sizes]
  have a1 := h1 s d
  have a2 := h2 (wrong top k s d).2 d
  split
  ·omega
  ·simp only [List.length_nil]; omega
end Nd
end Go.Tr
namespace Go.Proofs.YtggcpoleklcmkaaGreatDoor
open Go.Sl Go.Ls Go.Tr
attribute [local irreducible] WC WL WX WK WA WAK Val Ctr RunRes ResIs Rd At sl box pt Exit.then Exit.inBlock bodyPost Code.wp wpList
def WrongP (r : Int × List Int) : Value → Mem → List HP → Prop := fun v I' L' =>
 (r.1 = 0 ∧ ∃ a cap, v = .tuple #[vi 0, .slice a r.2.length cap] ∧ L' = [sl 3 1 (.slice a r.2.length cap) r.2.length (r.2.map vi)]) ∨ (r.1 ≠ 0 ∧ v = .tuple #[vi r.1, .slice none 0 0] ∧ L' = [])
theorem rWrong (top : Nd) (N : Nat) : ∀ (nd : Nd), nd.size ≤ N → ∀ (kv tv : Value) (seen : List Int) (a0 : Option Addr) (c0 : Nat) (d : Int) (I : Mem), nd.size + seen.length ≤ 1099511627776 → top.size ≤ 1099511627776 → -1000 ≤ d → d ≤ 1099511627776 → I64 nd.id → LsAt Nd.Rp I nd.kids kv → I64 top.id → LsAt Nd.Rp I top.kids tv →
  Ctr Tryz.prog 157 [.agg #[vi top.id, .bool top.grp, tv], .agg #[vi nd.id, .bool nd.grp, kv], .slice a0 seen.length c0, vi d] I [sl 3 1 (.slice a0 seen.length c0) seen.length (seen.map vi)] (WrongP (Nd.wrong top nd seen d)) := by
 induction N with
 | zero => intro nd h; have := nd.size_pos; omega
 | succ N ih =>
  intro nd hs kv tv seen a0 c0 d I hb hbt hd0 hd1 hid hkv hit htv
  have hlen := hkv.le
  have hsz := sizes_lt nd
  have hll := Nd.len_le_sizes nd.kids
  have htv0 := htv
  obtain ⟨a1, c1, rfl⟩ := hkv.sl
  obtain ⟨a9, c9, rfl⟩ := htv.sl
  have hwr : Nd.wrong top nd seen d = if nd.id < 1 ∨ 2147483648 < nd.id then (30, []) else if (Nd.find nd.id top).isSome = true then (32, []) else if nd.id ∈ seen then (32, []) else if nd.grp = false ∧ 0 < nd.kids.length then (33, []) else if 64 < d then (35, []) else Nd.wrongs top nd.kids (seen ++ [nd.id]) (d + 1) := by cases nd; rw [Nd.wrong]; rfl
  refine Ctr.intro Tryz.func157 rfl rfl rfl fun E F => ?_
  by_cases h30 : nd.id < 1 ∨ 2147483648 < nd.id
  ·rw [hwr, if_pos h30]
   by_cases h301 : nd.id < 1
   ·skip
    refine jS (WL.boxA rfl rfl (fun _ => ?_))
    refine jW ?_
    refine WL.boxA rfl rfl (fun _ => ?_)
    refine jW ?_
    refine jf rfl (jh rfl (jM (jB (jS (jm (jn rfl) (jm (jp 3 rfl rfl rfl) (jy rfl rfl (jb rfl (jH (jH (jH (jk rfl (jM (jF (jS (jf rfl (jh rfl (jM (jR (jU ?_))))))))))))))))))))
    exact jP [] (jr2 rfl (jtI rfl) (jtS rfl)) (.inr ⟨by decide, rfl, rfl⟩)
   ·skip
    refine jS (WL.boxA rfl rfl (fun _ => ?_))
    refine jW ?_
    refine WL.boxA rfl rfl (fun _ => ?_)
    refine jW ?_
    refine jf rfl (jh rfl (jM (jB (jS (jm (jn rfl) (jm (jp 3 rfl rfl rfl) (jx rfl rfl (jb rfl (jG (jm (jn rfl) (jG (jm (jp 3 rfl rfl rfl) (jG (jO rfl rfl (jk rfl (jM (jF (jS (jf rfl (jh rfl (jM (jR (jU ?_)))))))))))))))))))))))
    exact jP [] (jr2 rfl (jtI rfl) (jtS rfl)) (.inr ⟨by decide, rfl, rfl⟩)
  rw [if_neg h30] at hwr
  refine jS (WL.boxA rfl rfl (fun _ => ?_))
  refine jW ?_
  refine WL.boxA rfl rfl (fun _ => ?_)
  refine jW ?_
  refine jf rfl (jh rfl (jM (jB (jS (jm (jn rfl) (jm (jp 3 rfl rfl rfl) (jx rfl rfl (jb rfl (jG (jm (jn rfl) (jG (jm (jp 3 rfl rfl rfl) (jG (jL rfl rfl (jk rfl (jM (jE (jV (jA (jB (jS (jm (jt 2 rfl rfl rfl) (jm (jn rfl) (jm (jp 3 rfl rfl rfl) (WL.callS rfl rfl (rHas nd.id top _ _ hbt hit htv) rfl ?_)))))))))))))))))))))))))
  rintro _ rfl
  by_cases h32 : (Nd.find nd.id top).isSome = true
  ·rw [hwr, if_pos h32, h32]
   refine jM (jF (jS (jf rfl (jh rfl (jM (jR (jU ?_)))))))
   exact jP [] (jr2 rfl (jtI rfl) (jtS rfl)) (.inr ⟨by decide, rfl, rfl⟩)
  rw [if_neg h32] at hwr
  rw [Bool.not_eq_true] at h32
  rw [h32]
  refine jM (jE (jV (jA (jB (jS (jf rfl (jM (WC.block ?_))))))))
  rename_i g g2
  refine WC.loop (fun n ρ' I' L' => ∃ k : Nat, n = seen.length - k ∧ k ≤ seen.length ∧ I' = I ∧ ρ' 2 = .slice a0 seen.length c0 ∧ ρ' 3 = vi d ∧ ρ' 4 = ptr g ∧ ρ' 5 = ptr g2 ∧ ρ' 10 = vi k ∧
    L' = [F, sl 3 1 (.slice a0 seen.length c0) seen.length (seen.map vi), box g 77 [vi top.id, .bool top.grp, .slice a9 top.kids.length c9], box g2 77 [vi nd.id, .bool nd.grp, .slice a1 nd.kids.length c1]] ∧ nd.id ∉ seen.take k)
   seen.length ⟨0, rfl, by omega, rfl, rfl, rfl, rfl, rfl, rfl, rfl, by simp⟩ ?_
  rintro n ρ' I0 L' ⟨k, rfl, hk, rfl, h2, h3, h4, h5, h10, rfl, hnot⟩
  refine ju5 h10 h5 h4 h3 h2 ?_
  by_cases hkn : k < seen.length
  ·refine WC.slSome 1 rfl (by omega) ?_
   rintro g5 rfl
   have hget : (seen.map vi)[0 + (k : Int).toNat * 1]? = some (vi seen[k]) := by simp [hkn]
   have htk := take1 seen k hkn
   have hmem : seen[k] ∈ seen := List.getElem_mem hkn
   generalize hx : seen[k] = x at *
   by_cases hxe : x = nd.id
   ·subst hxe
    rw [hwr, if_pos hmem]
    refine jB (jS (ja rfl (jc rfl (jm (jo rfl) (jy rfl rfl (jM (jF (jV (jA (jB (WC.block (jB (j8 999 [1, 2] rfl (jT 0 rfl (Val.moveS rfl) (jT 1 rfl (Val.moveI rfl) (jT 2 rfl (jZ rfl rfl) (jT 3 rfl (Val.loadS rfl (Rd.sl1 0 rfl hget)) ?_)))))))))))))))))
    refine jT 4 rfl (jn rfl) (jT 5 rfl (jp 1 rfl rfl rfl) (jT 6 rfl (Val.eql rfl rfl (beq_iff_eq.2 (by omega))) ?_))
    refine j6 (jA (jF (jS (jf rfl (jh rfl (jM (jR (WX.inRet (jU (jU (WX.inRet (jU ?_))))))))))))
    exact jP [] (jr2 rfl (jtI rfl) (jtS rfl)) (.inr ⟨by decide, rfl, rfl⟩)
   ·skip
    refine jB (jS (ja rfl (jc rfl (jm (jo rfl) (jy rfl rfl (jM (jF (jV (jA (jB (WC.block (jB (j8 999 [1, 2] rfl (jT 0 rfl (Val.moveS rfl) (jT 1 rfl (Val.moveI rfl) (jT 2 rfl (jZ rfl rfl) (jT 3 rfl (Val.loadS rfl (Rd.sl1 0 rfl hget)) ?_)))))))))))))))))
    refine jT 4 rfl (jn rfl) (jT 5 rfl (jp 1 rfl rfl rfl) (jT 6 rfl (Val.eql rfl rfl (beq_eq_false_iff_ne.2 (by omega))) ?_))
    refine j6 (jA (jE (jV (WX.inNormal (jA (jD (ja rfl (jX rfl rfl (jf rfl (jC ?_))))))))))
    refine WX.thenK (WK.round (seen.length - (k + 1)) (by omega) ⟨k + 1, rfl, by omega, rfl, rfl, rfl, rfl, rfl, rfl, rfl, ?_⟩)
    rw [htk]
    intro hm
    rcases List.mem_append.1 hm with hm | hm
    ·exact hnot hm
    ·exact hxe (List.mem_singleton.1 hm).symm
  obtain rfl : k = seen.length := by omega
  rw [List.take_length] at hnot
  rw [if_neg hnot] at hwr
  by_cases h33 : nd.grp = false ∧ 0 < nd.kids.length
  ·rw [hwr, if_pos h33]
   rw [h33.1]
   have h331 : (0 : Int) < nd.kids.length := by omega
   refine jB (jS (ja rfl (jc rfl (jm (jo rfl) (jx rfl rfl (jM (jE (WC.exit (WX.thenExit (WX.thenExit (WX.inHit (jA (jB (jS (jm (jn rfl) (jm (jp 3 rfl rfl rfl) (jl rfl (jb rfl (jG (jm (jn rfl) (jG (jm (jp 3 rfl rfl rfl) (jG (jm (jo rfl) (jG (jO rfl rfl (jk rfl (jM (jF (jS (jf rfl (jh rfl (jM (jR (jU ?_)))))))))))))))))))))))))))))))))))
   exact jP [] (jr2 rfl (jtI rfl) (jtS rfl)) (.inr ⟨by decide, rfl, rfl⟩)
  rw [if_neg h33] at hwr
  by_cases h35 : 64 < d
  ·rw [hwr, if_pos h35]
   cases hgb : nd.grp
   ·have h331 : ¬ (0 : Int) < nd.kids.length := by rw [hgb] at h33; simp at h33; simp [h33]
    refine jB (jS (ja rfl (jc rfl (jm (jo rfl) (jx rfl rfl (jM (jE (WC.exit (WX.thenExit (WX.thenExit (WX.inHit (jA (jB (jS (jm (jn rfl) (jm (jp 3 rfl rfl rfl) (jl rfl (jb rfl (jG (jm (jn rfl) (jG (jm (jp 3 rfl rfl rfl) (jG (jm (jo rfl) (jG (jL rfl rfl (jk rfl (jM (jE (jV (jA (jB (jS (ja rfl (jO rfl rfl (jM (jF (jS (jf rfl ?_)))))))))))))))))))))))))))))))))))))))
    refine jh rfl (jM (jR (jU ?_)))
    exact jP [] (jr2 rfl (jtI rfl) (jtS rfl)) (.inr ⟨by decide, rfl, rfl⟩)
   ·skip
    refine jB (jS (ja rfl (jc rfl (jm (jo rfl) (jx rfl rfl (jM (jE (WC.exit (WX.thenExit (WX.thenExit (WX.inHit (jA (jB (jS (jm (jn rfl) (jm (jp 3 rfl rfl rfl) (jl rfl (jb rfl (jH (jH (jH (jH (jk rfl (jM (jE (jV (jA (jB (jS (ja rfl (jO rfl rfl (jM (jF (jS (jf rfl (jh rfl (jM (jR (jU ?_)))))))))))))))))))))))))))))))))))))))
    exact jP [] (jr2 rfl (jtI rfl) (jtS rfl)) (.inr ⟨by decide, rfl, rfl⟩)
  rw [if_neg h35] at hwr
  cases hgb : nd.grp
  ·have h331 : ¬ (0 : Int) < nd.kids.length := by rw [hgb] at h33; simp at h33; simp [h33]
   refine jB (jS (ja rfl (jc rfl (jm (jo rfl) (jx rfl rfl (jM (jE (WC.exit (WX.thenExit (WX.thenExit (WX.inHit (jA (jB (jS (jm (jn rfl) (jm (jp 3 rfl rfl rfl) (jl rfl (jb rfl (jG (jm (jn rfl) (jG (jm (jp 3 rfl rfl rfl) (jG (jm (jo rfl) (jG (jL rfl rfl (jk rfl (jM (jE (jV (jA (jB (jS (ja rfl (jL rfl rfl (jM (jE (jV (jK ?_)))))))))))))))))))))))))))))))))))))))
   refine jc rfl (jm (jn rfl) (jm (jp 3 rfl rfl rfl) (WL.buildSlice (by with_unfolding_all exact rfl) rfl (by with_unfolding_all exact rfl) rfl (fun _ => ?_))))
   refine jW ?_
   rename_i gl
   refine WL.appI 1 4 rfl rfl rfl rfl (by rfl) (by omega) rfl fun aa cap => ?_
   refine WL.nSet ?_
   refine jh rfl (jM (jB (jS (jf rfl (jM (WC.block (WC.conv (fun w h => h.sub [0, 1, 1, 0] rfl) ?_)))))))
   refine WC.loop (fun n ρ' I' L' => ∃ k : Nat, ∃ (s : List Int) (aa : Option Addr) (cap : Nat), n = nd.kids.length - k ∧ k ≤ nd.kids.length ∧ I0.le I' ∧ ρ' 2 = .slice aa s.length cap ∧ ρ' 3 = vi d ∧ ρ' 4 = ptr g ∧ ρ' 5 = ptr g2 ∧ ρ' 11 = vi k ∧ L' = [F, box g 77 [vi top.id, .bool top.grp, .slice a9 top.kids.length c9], box g2 77 [vi nd.id, .bool nd.grp, .slice a1 nd.kids.length c1], sl 3 1 (.slice aa s.length cap) s.length (s.map vi)] ∧ Nd.wrongs top (nd.kids.take k) (seen ++ [nd.id]) (d + 1) = (0, s) ∧ s.length ≤ seen.length + 1 + Nd.sizes (nd.kids.take k))
    nd.kids.length ⟨0, seen ++ [nd.id], aa, cap, rfl, by omega, Mem.le.refl _, rfl, rfl, rfl, rfl, rfl, by rw [hgb], by rw [List.take_zero, Nd.wrongs], by simp⟩ ?_
   clear hnot
   rintro n ρ' I1 L' ⟨k, s, aa, cap, rfl, hk, hI, h2, h3, h4, h5, h11, rfl, hw, hsl⟩
   refine ju5 h11 h5 h4 h3 h2 ?_
   by_cases hkn : k < nd.kids.length
   ·exact absurd hkn (by omega)
   ·have : k = nd.kids.length := by omega
    rw [this, List.take_length] at hw
    refine jB (jS (ja rfl (jm (jn rfl) (jm (jp 2 rfl rfl rfl) (jm (jo rfl) (jx rfl rfl (jM (jE (WC.exit (WX.thenExit (WX.thenExit (WX.inHit (jK (jc rfl (jf rfl (jh rfl (jM (jR ?_))))))))))))))))))
    refine jP [2] (jr2 rfl (jtI rfl) (jtS rfl)) ?_
    rw [hwr, hw]
    exact .inl ⟨rfl, _, _, rfl, rfl⟩
  ·skip
   refine jB (jS (ja rfl (jc rfl (jm (jo rfl) (jx rfl rfl (jM (jE (WC.exit (WX.thenExit (WX.thenExit (WX.inHit (jA (jB (jS (jm (jn rfl) (jm (jp 3 rfl rfl rfl) (jl rfl (jb rfl (jH (jH (jH (jH (jk rfl (jM (jE (jV (jA (jB (jS (ja rfl (jL rfl rfl (jM (jE (jV (jK (jc rfl (jm (jn rfl) (jm (jp 3 rfl rfl rfl) (WL.buildSlice (by with_unfolding_all exact rfl) rfl (by with_unfolding_all exact rfl) rfl (fun _ => ?_))))))))))))))))))))))))))))))))))))))))
   refine jW ?_
   rename_i gl
   refine WL.appI 1 4 rfl rfl rfl rfl (by rfl) (by omega) rfl fun aa cap => ?_
   refine WL.nSet ?_
   refine jh rfl (jM (jB (jS (jf rfl (jM (WC.block (WC.conv (fun w h => h.sub [0, 1, 1, 0] rfl) ?_)))))))
   refine WC.loop (fun n ρ' I' L' => ∃ k : Nat, ∃ (s : List Int) (aa : Option Addr) (cap : Nat), n = nd.kids.length - k ∧ k ≤ nd.kids.length ∧ I0.le I' ∧ ρ' 2 = .slice aa s.length cap ∧ ρ' 3 = vi d ∧ ρ' 4 = ptr g ∧ ρ' 5 = ptr g2 ∧ ρ' 11 = vi k ∧ L' = [F, box g 77 [vi top.id, .bool top.grp, .slice a9 top.kids.length c9], box g2 77 [vi nd.id, .bool nd.grp, .slice a1 nd.kids.length c1], sl 3 1 (.slice aa s.length cap) s.length (s.map vi)] ∧ Nd.wrongs top (nd.kids.take k) (seen ++ [nd.id]) (d + 1) = (0, s) ∧ s.length ≤ seen.length + 1 + Nd.sizes (nd.kids.take k))
    nd.kids.length ⟨0, seen ++ [nd.id], aa, cap, rfl, by omega, Mem.le.refl _, rfl, rfl, rfl, rfl, rfl, by rw [hgb], by rw [List.take_zero, Nd.wrongs], by simp⟩ ?_
   clear hnot
   rintro n ρ' I1 L' ⟨k, s, aa, cap, rfl, hk, hI, h2, h3, h4, h5, h11, rfl, hw, hsl⟩
   refine ju5 h11 h5 h4 h3 h2 ?_
   by_cases hkn : k < nd.kids.length
   ·obtain ⟨b, off, cap', cs, he, hR, hA⟩ := (hkv.mono hI).get k hkn
    cases he
    obtain ⟨hi, kv', rfl, hks⟩ := Nd.rep_iff.1 hR
    have hks0 := hks
    obtain ⟨a2, c2, rfl⟩ := hks.sl
    have hst := Nd.sizes_take nd.kids (k + 1)
    have hst1 : Nd.sizes (nd.kids.take (k + 1)) = Nd.sizes (nd.kids.take k) + nd.kids[k].size := by rw [take1 _ _ hkn, Nd.sizes_app]; simp [Nd.sizes]
    have hwl := Nd.wrong_len top nd.kids[k] s (d + 1)
    have hwt : Nd.wrongs top (nd.kids.take (k + 1)) (seen ++ [nd.id]) (d + 1) = Nd.wrongs top [nd.kids[k]] s (d + 1) := by rw [take1 _ _ hkn, Nd.wrongs_app, hw]; rfl
    refine jB (jS (ja rfl (jm (jn rfl) (jm (jp 2 rfl rfl rfl) (jm (jo rfl) (jy rfl rfl (jM (jF (jV (jA (jB (WC.block (jS (jf rfl (jM (jB (j8 999 [1, 1] rfl (jT 0 rfl (jt 0 rfl rfl rfl) (jT 1 rfl (jn rfl) (jT 2 rfl (jp 1 rfl rfl rfl) (jT 3 rfl (Val.moveI rfl) (jT 4 rfl (jZ rfl rfl) (jT 5 rfl (Val.loadI rfl (by assumption) rfl) ?_)))))))))))))))))))))))
    refine jT 6 rfl (Val.moveS rfl) (jT 7 rfl (Val.moveI rfl) (jT 8 rfl (Val.add rfl rfl (wrap_i64 (by omega) (by omega))) ?_))
    refine j5 9 rfl (WL.callP [3] rfl rfl (ih _ (kid_lt hs hkn) _ _ s aa cap (d + 1) _ (by omega) hbt (by omega) (by omega) hi hks hit (htv.mono hI)) rfl ?_)
    rintro v I2 _ hI2 (⟨he, a5, c5, rfl, rfl⟩ | ⟨he, rfl, rfl⟩)
    ·refine WL.nApp ?_
     refine jC (j9 [1, 1] (hI2) rfl (jT 10 rfl (Val.moveT rfl) (jT 11 rfl (jq rfl rfl) (jT 12 rfl (Val.extractS rfl rfl) (jT 13 rfl (Val.assignI rfl) (jT 14 rfl (Val.assignS rfl) (j6 (jK (ja rfl (jz rfl rfl (jM (jE (jV (WX.inNormal (jA (jD (ja rfl (jX rfl rfl (jf rfl (jC ?_))))))))))))))))))))
     refine WX.thenK (WK.round (nd.kids.length - (k + 1)) (by omega) ⟨k + 1, (Nd.wrong top nd.kids[k] s (d + 1)).2, a5, c5, rfl, by omega, hI.trans hI2, rfl, rfl, rfl, rfl, rfl, rfl, ?_, by omega⟩)
     rw [hwt]
     simp only [Nd.wrongs, he, if_true]
    ·refine WL.nApp ?_
     refine jC (j9 [1, 1] (hI2) rfl (jT 10 rfl (Val.moveT rfl) (jT 11 rfl (jq rfl rfl) (jT 12 rfl (Val.extractS rfl rfl) (jT 13 rfl (Val.assignI rfl) (jT 14 rfl (Val.assignS rfl) (j6 (jK (ja rfl (jJ rfl rfl (jM (jF (jS (ja rfl (jf rfl (jh rfl (jM (jR (WX.inRet (jU (jU (WX.inRet (jU ?_)))))))))))))))))))))))
     have hJ := hI.trans hI2
     refine jP [] (jr2 rfl (jtI rfl) (jtS rfl)) ?_
     have hfin : Nd.wrong top nd seen d = ((Nd.wrong top nd.kids[k] s (d + 1)).1, []) := by
      have h1 := congrArg (fun l => Nd.wrongs top l (seen ++ [nd.id]) (d + 1)) (List.take_append_drop (k + 1) nd.kids).symm
      rw [hwr, h1, Nd.wrongs_app, hwt]
      simp only [Nd.wrongs, he, if_false]
     rw [hfin]
     exact .inr ⟨he, rfl, rfl⟩
   ·have : k = nd.kids.length := by omega
    rw [this, List.take_length] at hw
    refine jB (jS (ja rfl (jm (jn rfl) (jm (jp 2 rfl rfl rfl) (jm (jo rfl) (jx rfl rfl (jM (jE (WC.exit (WX.thenExit (WX.thenExit (WX.inHit (jK (jc rfl (jf rfl (jh rfl (jM (jR ?_))))))))))))))))))
    refine jP [2] (jr2 rfl (jtI rfl) (jtS rfl)) ?_
    rw [hwr, hw]
    exact .inl ⟨rfl, _, _, rfl, rfl⟩
end Go.Proofs.YtggcpoleklcmkaaGreatDoor
