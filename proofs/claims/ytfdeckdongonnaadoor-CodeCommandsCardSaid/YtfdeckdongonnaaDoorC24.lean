/-
  Code, the walks: what the law calls small and plain.
-/
import Derived.Test.YtfdeckdongonnaaDoorC23
import Derived.Test.YtfdeckdongonnaaDoorSepH
namespace Go.Cd
open Go.Sl
theorem Pt.z_iff {p : Pt} : p = Pt.z ↔ p.cs = [vi 0, vi 0] := ⟨fun h => by rw [h], fun h => Pt.inj h⟩
theorem Col.z_iff {c : Col} : c = Col.z ↔ c.cs = [.int .u8 0, .int .u8 0, .int .u8 0, .int .u8 0] := ⟨fun h => by rw [h]; rfl, fun h => Col.inj (h.trans rfl)⟩
theorem nil_iff {α : Type} {l : List α} : l = [] ↔ (l.length : Int) ≤ 0 := by
  rw [← List.length_eq_zero_iff]; omega
end Go.Cd
namespace Go.Proofs.YtfdeckdongonnaaDoor
open Go.Sl Go.Cd
set_option maxRecDepth 100000
set_option maxHeartbeats 4000000
set_option linter.unusedVariables false
attribute [local irreducible] WC WL WX WK WA WAK Val Ctr RunRes ResIs Rd At sl box pt Exit.then Exit.inBlock bodyPost Code.wp wpList
theorem smallAttr_ctr (a : Atr) (t u d q : Value) (I : Mem) (ha : a.at_ I t u d q) :
    Ctr Tryd.prog 38 [.agg (a.cs t u d q).toArray] I [] (Still I (EqP a.small)) := by
  obtain ⟨a1, c1, a2, c2, a3, c3, a4, c4, rfl, rfl, rfl, rfl⟩ := ha.sl
  refine Ctr.intro Tryd.func38 rfl rfl rfl fun E F => ?_
  refine WC.seq ?_
  refine WC.region ?_
  (refine WL.boxA rfl rfl ?_; intro _)
  refine WL.nApp ?_
  refine WL.val (Val.assignB rfl) rfl ?_
  refine WL.nil ?_
  refine WX.thenC ?_
  refine WC.seq ?_
  refine WC.region ?_
  refine WL.val (Val.fldAddr rfl) rfl ?_
  refine WL.val (Val.loadS rfl (Rd.own1 1 rfl rfl)) rfl ?_
  refine WL.val (Val.len rfl) rfl ?_
  refine WL.leI rfl rfl rfl (fun h => ?_) (fun h => ?_)
  refine WL.val (Val.moveB rfl) rfl ?_
  refine WL.gT rfl rfl ?_
  refine WL.val (Val.fldAddr rfl) rfl ?_
  refine WL.gT rfl rfl ?_
  refine WL.val (Val.fldAddr rfl) rfl ?_
  refine WL.gT rfl rfl ?_
  refine WL.val (Val.fldAddr rfl) rfl ?_
  refine WL.gT rfl rfl ?_
  refine WL.val (Val.loadS rfl (Rd.own1 1 rfl rfl)) rfl ?_
  refine WL.gT rfl rfl ?_
  refine WL.val (Val.len rfl) rfl ?_
  refine WL.gT rfl rfl ?_
  refine WL.leI rfl rfl rfl (fun h => ?_) (fun h => ?_)
  refine WL.val (Val.pick rfl) rfl ?_
  refine WL.val (Val.moveB rfl) rfl ?_
  refine WL.gT rfl rfl ?_
  refine WL.val (Val.fldAddr rfl) rfl ?_
  refine WL.gT rfl rfl ?_
  refine WL.val (Val.fldAddr rfl) rfl ?_
  refine WL.gT rfl rfl ?_
  refine WL.val (Val.fldAddr rfl) rfl ?_
  refine WL.gT rfl rfl ?_
  refine WL.val (Val.loadS rfl (Rd.own1 1 rfl rfl)) rfl ?_
  refine WL.gT rfl rfl ?_
  refine WL.val (Val.len rfl) rfl ?_
  refine WL.gT rfl rfl ?_
  refine WL.leI rfl rfl rfl (fun h => ?_) (fun h => ?_)
  refine WL.val (Val.pick rfl) rfl ?_
  refine WL.val (Val.moveB rfl) rfl ?_
  refine WL.gT rfl rfl ?_
  refine WL.val (Val.fldAddr rfl) rfl ?_
  refine WL.gT rfl rfl ?_
  refine WL.val (Val.fldAddr rfl) rfl ?_
  refine WL.gT rfl rfl ?_
  refine WL.val (Val.fldAddr rfl) rfl ?_
  refine WL.gT rfl rfl ?_
  refine WL.val (Val.loadS rfl (Rd.own1 1 rfl rfl)) rfl ?_
  refine WL.gT rfl rfl ?_
  refine WL.val (Val.len rfl) rfl ?_
  refine WL.gT rfl rfl ?_
  refine WL.leI rfl rfl rfl (fun h => ?_) (fun h => ?_)
  refine WL.val (Val.pick rfl) rfl ?_
  refine WL.val (Val.assignB rfl) rfl ?_
  refine WL.nil ?_
  refine WX.thenC ?_
  refine WC.ret ?_
  rotate_left
  refine WL.val (Val.pick rfl) rfl ?_
  refine WL.val (Val.assignB rfl) rfl ?_
  refine WL.nil ?_
  refine WX.thenC ?_
  refine WC.ret ?_
  rotate_left
  refine WL.val (Val.pick rfl) rfl ?_
  refine WL.val (Val.moveB rfl) rfl ?_
  refine WL.gF rfl rfl rfl rfl ?_
  refine WL.gF rfl rfl rfl rfl ?_
  refine WL.gF rfl rfl rfl rfl ?_
  refine WL.gF rfl rfl rfl rfl ?_
  refine WL.gF rfl rfl rfl rfl ?_
  refine WL.gF rfl rfl rfl rfl ?_
  refine WL.val (Val.pick rfl) rfl ?_
  refine WL.val (Val.assignB rfl) rfl ?_
  refine WL.nil ?_
  refine WX.thenC ?_
  refine WC.ret ?_
  rotate_left
  refine WL.val (Val.pick rfl) rfl ?_
  refine WL.val (Val.moveB rfl) rfl ?_
  refine WL.gF rfl rfl rfl rfl ?_
  refine WL.gF rfl rfl rfl rfl ?_
  refine WL.gF rfl rfl rfl rfl ?_
  refine WL.gF rfl rfl rfl rfl ?_
  refine WL.gF rfl rfl rfl rfl ?_
  refine WL.gF rfl rfl rfl rfl ?_
  refine WL.val (Val.pick rfl) rfl ?_
  refine WL.val (Val.moveB rfl) rfl ?_
  refine WL.gF rfl rfl rfl rfl ?_
  refine WL.gF rfl rfl rfl rfl ?_
  refine WL.gF rfl rfl rfl rfl ?_
  refine WL.gF rfl rfl rfl rfl ?_
  refine WL.gF rfl rfl rfl rfl ?_
  refine WL.gF rfl rfl rfl rfl ?_
  refine WL.val (Val.pick rfl) rfl ?_
  refine WL.val (Val.assignB rfl) rfl ?_
  refine WL.nil ?_
  refine WX.thenC ?_
  refine WC.ret ?_
  rotate_left
  refine WL.val (Val.moveB rfl) rfl ?_
  refine WL.gF rfl rfl rfl rfl ?_
  refine WL.gF rfl rfl rfl rfl ?_
  refine WL.gF rfl rfl rfl rfl ?_
  refine WL.gF rfl rfl rfl rfl ?_
  refine WL.gF rfl rfl rfl rfl ?_
  refine WL.gF rfl rfl rfl rfl ?_
  refine WL.val (Val.pick rfl) rfl ?_
  refine WL.val (Val.moveB rfl) rfl ?_
  refine WL.gF rfl rfl rfl rfl ?_
  refine WL.gF rfl rfl rfl rfl ?_
  refine WL.gF rfl rfl rfl rfl ?_
  refine WL.gF rfl rfl rfl rfl ?_
  refine WL.gF rfl rfl rfl rfl ?_
  refine WL.gF rfl rfl rfl rfl ?_
  refine WL.val (Val.pick rfl) rfl ?_
  refine WL.val (Val.moveB rfl) rfl ?_
  refine WL.gF rfl rfl rfl rfl ?_
  refine WL.gF rfl rfl rfl rfl ?_
  refine WL.gF rfl rfl rfl rfl ?_
  refine WL.gF rfl rfl rfl rfl ?_
  refine WL.gF rfl rfl rfl rfl ?_
  refine WL.gF rfl rfl rfl rfl ?_
  refine WL.val (Val.pick rfl) rfl ?_
  refine WL.val (Val.assignB rfl) rfl ?_
  refine WL.nil ?_
  refine WX.thenC ?_
  refine WC.ret ?_
  rotate_left
  all_goals
    apply WX.doneP (ks := [])
    case hres => exact RunRes.r1 rfl (ResIs.tmpB rfl)
    case hI => first | exact Mem.le.refl _ | assumption
  all_goals refine ⟨rfl, rfl, ?_⟩
  all_goals unfold Atr.small
  all_goals first | exact EqP.t (by omega) | exact EqP.f (by omega)
theorem small_ctr (c : Cm) (e t u d q : Value) (I : Mem) (hc : c.at_ I e t u d q) :
    Ctr Tryd.prog 13 [.agg (c.cs e t u d q).toArray] I [] (Still I (EqP c.small)) := by
  have hlb : c.ents.length ≤ 9223372036854775807 := by obtain ⟨_, h, _⟩ := hc.ents; exact h.le
  obtain ⟨a0, c0, a1, c1, a2, c2, a3, c3, a4, c4, rfl, rfl, rfl, rfl, rfl⟩ := hc.sl
  refine Ctr.intro Tryd.func13 rfl rfl rfl fun E F => ?_
  refine WC.seq ?_
  refine WC.region ?_
  (refine WL.boxA rfl rfl ?_; intro _)
  refine WL.nApp ?_
  refine WL.val (Val.assignB rfl) rfl ?_
  refine WL.nil ?_
  refine WX.thenC ?_
  refine WC.seq ?_
  refine WC.seq ?_
  refine WC.region ?_
  refine WL.val (Val.fldAddr rfl) rfl ?_
  refine WL.val (Val.loadS rfl (Rd.own1 1 rfl rfl)) rfl ?_
  refine WL.val (Val.len rfl) rfl ?_
  refine WL.val (Val.moveI rfl) rfl ?_
  refine WL.nil ?_
  refine WX.thenC ?_
  refine WC.block ?_
  rename_i g
  refine WC.loop (fun n ρ' I' L' => ∃ k : Nat, n = c.ents.length - k ∧ k ≤ c.ents.length ∧ I' = I ∧ ρ' 1 = ptr g ∧ ρ' 6 = .slice a0 c.ents.length c0 ∧ ρ' 7 = vi c.ents.length ∧ ρ' 8 = vi k ∧
      L' = [F, box g 46 (c.cs (.slice a0 c.ents.length c0) (.slice a1 c.atr.sty.fill.stops.length c1) (.slice a2 c.atr.sty.pen.stops.length c2) (.slice a3 c.atr.sty.dash.length c3) (.slice a4 c.atr.path.length c4))] ∧ ∀ x ∈ c.ents.take k, x.atr.small)
    c.ents.length ⟨0, rfl, by omega, rfl, rfl, rfl, rfl, rfl, rfl, fun x hx => by simp at hx⟩ ?_
  rintro n ρ' I0 L' ⟨k, rfl, hk, rfl, h1, h6, h7, h8, rfl, hall⟩
  rw [← upd_self h8, ← upd_self h7, ← upd_self h6, ← upd_self h1]
  clear h8 h7 h6 h1
  by_cases hkn : k < c.ents.length
  · obtain ⟨b, off, cap', cs, he, ⟨t1, t2, t3, t4, rfl, hi⟩, hA⟩ := hc.ents.get k hkn
    cases he
    have hsn := all_snoc (P := fun x => x.atr.small) hall hkn
    generalize hx : c.ents[k] = x at *
    obtain ⟨b1, r1, b2, r2, b3, r3, b4, r4, rfl, rfl, rfl, rfl⟩ := hi.sl
    refine WC.seq ?_
    refine WC.region ?_
    refine WL.val (Val.lss rfl rfl (decide_eq_true (by omega))) rfl ?_
    refine WL.nil ?_
    refine WX.thenC ?_
    refine WC.seq ?_
    refine WC.condT rfl ?_
    refine WC.skip ?_
    refine WX.thenC ?_
    refine WC.seq ?_
    refine WC.block ?_
    refine WC.seq ?_
    refine WC.region ?_
    refine WL.val (Val.indexAddr rfl rfl (by omega) (by omega)) rfl ?_
    refine WL.val (Val.loadI rfl (by assumption) rfl) rfl ?_
    (refine WL.alloc rfl ?_; intro _)
    refine WL.nApp ?_
    refine WL.stA 2 rfl rfl rfl rfl ?_
    refine WL.nil ?_
    refine WX.thenC ?_
    refine WC.seq ?_
    refine WC.region ?_
    refine WL.val (Val.fldAddr rfl) rfl ?_
    refine WL.val (Val.ldO 2 rfl rfl rfl) rfl ?_
    refine WL.callE rfl rfl (smallAttr_ctr x.atr _ _ _ _ _ hi.atr) rfl (fun h => ?_) (fun h => ?_)
    · skip
      refine WL.val (Val.not rfl) rfl ?_
      refine WL.nil ?_
      refine WX.thenC ?_
      refine WC.condF rfl ?_
      refine WC.skip ?_
      refine WX.inNormal ?_
      refine WX.thenC ?_
      refine WC.region ?_
      refine WL.val (Val.add rfl rfl (wrap_i64 (by omega) (by omega))) rfl ?_
      refine WL.val (Val.moveI rfl) rfl ?_
      refine WL.nil ?_
      refine WX.conv (fun w h => h.sub [0, 0] rfl) ?_
      exact WX.thenK (WK.round (c.ents.length - (k + 1)) (by omega) ⟨k + 1, rfl, by omega, rfl, rfl, rfl, rfl, rfl, rfl, hsn h⟩)
    · skip
      refine WL.val (Val.not rfl) rfl ?_
      refine WL.nil ?_
      refine WX.thenC ?_
      refine WC.condT rfl ?_
      refine WC.seq ?_
      refine WC.region ?_
      refine WL.val (Val.assignB rfl) rfl ?_
      refine WL.nil ?_
      refine WX.thenC ?_
      refine WC.ret ?_
      refine WX.inRet ?_
      refine WX.thenRet ?_
      refine WX.thenRet ?_
      refine WX.inRet ?_
      refine WX.thenRet ?_
      apply WX.doneP (ks := [])
      case hres => exact RunRes.r1 rfl (ResIs.tmpB rfl)
      case hI => first | exact Mem.le.refl _ | assumption
      refine ⟨rfl, rfl, EqP.f fun e => h (e.1 x ?_)⟩
      rw [← hx]
      exact List.getElem_mem _
  · have hall' : ∀ x ∈ c.ents, x.atr.small := by
      have : k = c.ents.length := by omega
      subst this
      rwa [List.take_length] at hall
    refine WC.seq ?_
    refine WC.region ?_
    refine WL.val (Val.lss rfl rfl (decide_eq_false (by omega))) rfl ?_
    refine WL.nil ?_
    refine WX.thenC ?_
    refine WC.seq ?_
    refine WC.condF rfl ?_
    refine WC.exit ?_
    refine WX.thenExit ?_
    refine WX.thenExit ?_
    refine WX.inHit ?_
    refine WX.thenC ?_
    refine WC.seq ?_
    refine WC.region ?_
    refine WL.val (Val.fldAddr rfl) rfl ?_
    refine WL.val (Val.loadS rfl (Rd.own1 1 rfl rfl)) rfl ?_
    refine WL.val (Val.len rfl) rfl ?_
    refine WL.leI rfl rfl rfl (fun h => ?_) (fun h => ?_)
    refine WL.val (Val.moveB rfl) rfl ?_
    refine WL.gT rfl rfl ?_
    refine WL.val (Val.fldAddr rfl) rfl ?_
    refine WL.gT rfl rfl ?_
    refine WL.val (Val.ldO 1 rfl rfl rfl) rfl ?_
    refine WL.gT rfl rfl ?_
    · refine WL.callE rfl rfl (smallAttr_ctr c.atr _ _ _ _ _ hc.atr) rfl (fun h => ?_) (fun h => ?_)
      · skip
        refine WL.val (Val.pick rfl) rfl ?_
        refine WL.val (Val.assignB rfl) rfl ?_
        refine WL.nil ?_
        refine WX.thenC ?_
        refine WC.ret ?_
        apply WX.doneP (ks := [])
        case hres => exact RunRes.r1 rfl (ResIs.tmpB rfl)
        case hI => first | exact Mem.le.refl _ | assumption
        exact ⟨rfl, rfl, EqP.t ⟨hall', by omega, h⟩⟩
      · skip
        refine WL.val (Val.pick rfl) rfl ?_
        refine WL.val (Val.assignB rfl) rfl ?_
        refine WL.nil ?_
        refine WX.thenC ?_
        refine WC.ret ?_
        apply WX.doneP (ks := [])
        case hres => exact RunRes.r1 rfl (ResIs.tmpB rfl)
        case hI => first | exact Mem.le.refl _ | assumption
        exact ⟨rfl, rfl, EqP.f fun e => h e.2.2⟩
    · skip
      refine WL.val (Val.moveB rfl) rfl ?_
      refine WL.gF rfl rfl rfl rfl ?_
      refine WL.gF rfl rfl rfl rfl ?_
      refine WL.gF rfl rfl rfl rfl ?_
      refine WL.val (Val.pick rfl) rfl ?_
      refine WL.val (Val.assignB rfl) rfl ?_
      refine WL.nil ?_
      refine WX.thenC ?_
      refine WC.ret ?_
      apply WX.doneP (ks := [])
      case hres => exact RunRes.r1 rfl (ResIs.tmpB rfl)
      case hI => first | exact Mem.le.refl _ | assumption
      exact ⟨rfl, rfl, EqP.f fun e => by have := e.2.1; omega⟩
theorem plainPaint_ctr (p : Pnt) (t : Value) (I : Mem) (hp : p.at_ I t) :
    Ctr Tryd.prog 64 [.agg (p.cs t).toArray] I [] (Still I (EqP p.pl)) := by
  obtain ⟨a1, c1, rfl⟩ := hp.sl
  clear hp
  refine Ctr.intro Tryd.func64 rfl rfl rfl fun E F => ?_
  refine WC.seq ?_
  refine WC.region ?_
  (refine WL.boxA rfl rfl ?_; intro _)
  refine WL.nApp ?_
  refine WL.val (Val.assignB rfl) rfl ?_
  refine WL.nil ?_
  refine WX.thenC ?_
  refine WC.seq ?_
  refine WC.region ?_
  refine WL.val (Val.fldAddr rfl) rfl ?_
  refine WL.val (Val.ldO 1 rfl rfl rfl) rfl ?_
  refine WL.val (Val.build0) rfl ?_
  refine WL.neS rfl rfl rfl rfl rfl (fun h => ?_) (fun h => ?_)
  refine WL.val (Val.moveB rfl) rfl ?_
  refine WL.gF rfl rfl rfl rfl ?_
  refine WL.gF rfl rfl rfl rfl ?_
  refine WL.gF rfl rfl rfl rfl ?_
  refine WL.gF rfl rfl rfl rfl ?_
  refine WL.val (Val.pick rfl) rfl ?_
  refine WL.val (Val.moveB rfl) rfl ?_
  refine WL.gF rfl rfl rfl rfl ?_
  refine WL.gF rfl rfl rfl rfl ?_
  refine WL.gF rfl rfl rfl rfl ?_
  refine WL.gF rfl rfl rfl rfl ?_
  refine WL.val (Val.pick rfl) rfl ?_
  refine WL.val (Val.assignB rfl) rfl ?_
  refine WL.nil ?_
  refine WX.thenC ?_
  refine WC.seq ?_
  refine WC.seq ?_
  refine WC.region ?_
  refine WL.val (Val.fldAddr rfl) rfl ?_
  refine WL.val (Val.loadS rfl (Rd.own1 1 rfl rfl)) rfl ?_
  refine WL.nil ?_
  refine WX.thenC ?_
  refine WC.block ?_
  refine WC.seq ?_
  refine WC.region ?_
  refine WL.eqI rfl rfl rfl (fun h => ?_) (fun h => ?_)
  refine WL.val (Val.assignB rfl) rfl ?_
  refine WL.nil ?_
  refine WX.thenC ?_
  refine WC.condT rfl ?_
  refine WC.seq ?_
  refine WC.region ?_
  refine WL.val (Val.moveB rfl) rfl ?_
  refine WL.val (Val.not rfl) rfl ?_
  refine WL.val (Val.moveB rfl) rfl ?_
  refine WL.gF rfl rfl rfl rfl ?_
  refine WL.gF rfl rfl rfl rfl ?_
  refine WL.gF rfl rfl rfl rfl ?_
  refine WL.gF rfl rfl rfl rfl ?_
  refine WL.val (Val.pick rfl) rfl ?_
  refine WL.val (Val.assignB rfl) rfl ?_
  refine WL.nil ?_
  refine WX.thenC ?_
  refine WC.ret ?_
  refine WX.inRet ?_
  refine WX.thenRet ?_
  rotate_left
  refine WL.val (Val.assignB rfl) rfl ?_
  refine WL.nil ?_
  refine WX.thenC ?_
  refine WC.condF rfl ?_
  refine WC.seq ?_
  refine WC.region ?_
  refine WL.eqI rfl rfl rfl (fun h => ?_) (fun h => ?_)
  refine WL.val (Val.assignB rfl) rfl ?_
  refine WL.nil ?_
  refine WX.thenC ?_
  refine WC.condT rfl ?_
  refine WC.seq ?_
  refine WC.region ?_
  refine WL.val (Val.moveB rfl) rfl ?_
  refine WL.val (Val.not rfl) rfl ?_
  refine WL.val (Val.assignB rfl) rfl ?_
  refine WL.nil ?_
  refine WX.thenC ?_
  refine WC.ret ?_
  refine WX.inRet ?_
  refine WX.thenRet ?_
  rotate_left
  refine WL.val (Val.assignB rfl) rfl ?_
  refine WL.nil ?_
  refine WX.thenC ?_
  refine WC.condF rfl ?_
  refine WC.seq ?_
  refine WC.seq ?_
  refine WC.region ?_
  refine WL.eqI rfl rfl rfl (fun h => ?_) (fun h => ?_)
  refine WL.val (Val.assignB rfl) rfl ?_
  refine WL.nil ?_
  refine WX.thenC ?_
  refine WC.condT rfl ?_
  refine WC.skip ?_
  refine WX.thenC ?_
  refine WC.condT rfl ?_
  refine WC.seq ?_
  refine WC.region ?_
  refine WL.val (Val.fldAddr rfl) rfl ?_
  refine WL.val (Val.ldO 1 rfl rfl rfl) rfl ?_
  refine WL.val (Val.build0) rfl ?_
  refine WL.eqS rfl rfl rfl rfl rfl (fun h => ?_) (fun h => ?_)
  refine WL.val (Val.moveB rfl) rfl ?_
  refine WL.gT rfl rfl ?_
  refine WL.val (Val.fldAddr rfl) rfl ?_
  refine WL.gT rfl rfl ?_
  refine WL.val (Val.loadS rfl (Rd.own1 1 rfl rfl)) rfl ?_
  refine WL.gT rfl rfl ?_
  refine WL.val (Val.len rfl) rfl ?_
  refine WL.gT rfl rfl ?_
  refine WL.leI rfl rfl rfl (fun h => ?_) (fun h => ?_)
  refine WL.val (Val.pick rfl) rfl ?_
  refine WL.val (Val.assignB rfl) rfl ?_
  refine WL.nil ?_
  refine WX.thenC ?_
  refine WC.ret ?_
  refine WX.inRet ?_
  refine WX.thenRet ?_
  rotate_left
  refine WL.val (Val.pick rfl) rfl ?_
  refine WL.val (Val.assignB rfl) rfl ?_
  refine WL.nil ?_
  refine WX.thenC ?_
  refine WC.ret ?_
  refine WX.inRet ?_
  refine WX.thenRet ?_
  rotate_left
  refine WL.val (Val.moveB rfl) rfl ?_
  refine WL.gF rfl rfl rfl rfl ?_
  refine WL.gF rfl rfl rfl rfl ?_
  refine WL.gF rfl rfl rfl rfl ?_
  refine WL.gF rfl rfl rfl rfl ?_
  refine WL.val (Val.pick rfl) rfl ?_
  refine WL.val (Val.assignB rfl) rfl ?_
  refine WL.nil ?_
  refine WX.thenC ?_
  refine WC.ret ?_
  refine WX.inRet ?_
  refine WX.thenRet ?_
  rotate_left
  refine WL.val (Val.assignB rfl) rfl ?_
  refine WL.nil ?_
  refine WX.thenC ?_
  refine WC.condF rfl ?_
  refine WC.region ?_
  refine WL.eqI rfl rfl rfl (fun h => ?_) (fun h => ?_)
  refine WL.val (Val.assignB rfl) rfl ?_
  refine WL.nil ?_
  refine WX.thenC ?_
  refine WC.condT rfl ?_
  refine WC.seq ?_
  refine WC.region ?_
  refine WL.val (Val.fldAddr rfl) rfl ?_
  refine WL.val (Val.ldO 1 rfl rfl rfl) rfl ?_
  refine WL.val (Val.build0) rfl ?_
  refine WL.eqS rfl rfl rfl rfl rfl (fun h => ?_) (fun h => ?_)
  refine WL.val (Val.moveB rfl) rfl ?_
  refine WL.gT rfl rfl ?_
  refine WL.val (Val.fldAddr rfl) rfl ?_
  refine WL.gT rfl rfl ?_
  refine WL.val (Val.loadS rfl (Rd.own1 1 rfl rfl)) rfl ?_
  refine WL.gT rfl rfl ?_
  refine WL.val (Val.len rfl) rfl ?_
  refine WL.gT rfl rfl ?_
  refine WL.leI rfl rfl rfl (fun h => ?_) (fun h => ?_)
  refine WL.val (Val.pick rfl) rfl ?_
  refine WL.val (Val.assignB rfl) rfl ?_
  refine WL.nil ?_
  refine WX.thenC ?_
  refine WC.ret ?_
  refine WX.inRet ?_
  refine WX.thenRet ?_
  rotate_left
  refine WL.val (Val.pick rfl) rfl ?_
  refine WL.val (Val.assignB rfl) rfl ?_
  refine WL.nil ?_
  refine WX.thenC ?_
  refine WC.ret ?_
  refine WX.inRet ?_
  refine WX.thenRet ?_
  rotate_left
  refine WL.val (Val.moveB rfl) rfl ?_
  refine WL.gF rfl rfl rfl rfl ?_
  refine WL.gF rfl rfl rfl rfl ?_
  refine WL.gF rfl rfl rfl rfl ?_
  refine WL.gF rfl rfl rfl rfl ?_
  refine WL.val (Val.pick rfl) rfl ?_
  refine WL.val (Val.assignB rfl) rfl ?_
  refine WL.nil ?_
  refine WX.thenC ?_
  refine WC.ret ?_
  refine WX.inRet ?_
  refine WX.thenRet ?_
  rotate_left
  refine WL.val (Val.assignB rfl) rfl ?_
  refine WL.nil ?_
  refine WX.thenC ?_
  refine WC.condF rfl ?_
  refine WC.skip ?_
  refine WX.inNormal ?_
  refine WX.thenC ?_
  refine WC.seq ?_
  refine WC.region ?_
  refine WL.val (Val.assignB rfl) rfl ?_
  refine WL.nil ?_
  refine WX.thenC ?_
  refine WC.ret ?_
  rotate_left
  refine WL.val (Val.moveB rfl) rfl ?_
  refine WL.gT rfl rfl ?_
  refine WL.val (Val.fldAddr rfl) rfl ?_
  refine WL.gT rfl rfl ?_
  refine WL.val (Val.ldO 1 rfl rfl rfl) rfl ?_
  refine WL.gT rfl rfl ?_
  refine WL.val (Val.build0) rfl ?_
  refine WL.gT rfl rfl ?_
  refine WL.neS rfl rfl rfl rfl rfl (fun h => ?_) (fun h => ?_)
  refine WL.val (Val.pick rfl) rfl ?_
  refine WL.val (Val.moveB rfl) rfl ?_
  refine WL.gF rfl rfl rfl rfl ?_
  refine WL.gF rfl rfl rfl rfl ?_
  refine WL.gF rfl rfl rfl rfl ?_
  refine WL.gF rfl rfl rfl rfl ?_
  refine WL.val (Val.pick rfl) rfl ?_
  refine WL.val (Val.assignB rfl) rfl ?_
  refine WL.nil ?_
  refine WX.thenC ?_
  refine WC.seq ?_
  refine WC.seq ?_
  refine WC.region ?_
  refine WL.val (Val.fldAddr rfl) rfl ?_
  refine WL.val (Val.loadS rfl (Rd.own1 1 rfl rfl)) rfl ?_
  refine WL.nil ?_
  refine WX.thenC ?_
  refine WC.block ?_
  refine WC.seq ?_
  refine WC.region ?_
  refine WL.eqI rfl rfl rfl (fun h => ?_) (fun h => ?_)
  refine WL.val (Val.assignB rfl) rfl ?_
  refine WL.nil ?_
  refine WX.thenC ?_
  refine WC.condT rfl ?_
  refine WC.seq ?_
  refine WC.region ?_
  refine WL.val (Val.moveB rfl) rfl ?_
  refine WL.val (Val.not rfl) rfl ?_
  refine WL.val (Val.moveB rfl) rfl ?_
  refine WL.gF rfl rfl rfl rfl ?_
  refine WL.gF rfl rfl rfl rfl ?_
  refine WL.gF rfl rfl rfl rfl ?_
  refine WL.gF rfl rfl rfl rfl ?_
  refine WL.val (Val.pick rfl) rfl ?_
  refine WL.val (Val.assignB rfl) rfl ?_
  refine WL.nil ?_
  refine WX.thenC ?_
  refine WC.ret ?_
  refine WX.inRet ?_
  refine WX.thenRet ?_
  rotate_left
  refine WL.val (Val.assignB rfl) rfl ?_
  refine WL.nil ?_
  refine WX.thenC ?_
  refine WC.condF rfl ?_
  refine WC.seq ?_
  refine WC.region ?_
  refine WL.eqI rfl rfl rfl (fun h => ?_) (fun h => ?_)
  refine WL.val (Val.assignB rfl) rfl ?_
  refine WL.nil ?_
  refine WX.thenC ?_
  refine WC.condT rfl ?_
  refine WC.seq ?_
  refine WC.region ?_
  refine WL.val (Val.moveB rfl) rfl ?_
  refine WL.val (Val.not rfl) rfl ?_
  refine WL.val (Val.assignB rfl) rfl ?_
  refine WL.nil ?_
  refine WX.thenC ?_
  refine WC.ret ?_
  refine WX.inRet ?_
  refine WX.thenRet ?_
  rotate_left
  refine WL.val (Val.assignB rfl) rfl ?_
  refine WL.nil ?_
  refine WX.thenC ?_
  refine WC.condF rfl ?_
  refine WC.seq ?_
  refine WC.seq ?_
  refine WC.region ?_
  refine WL.eqI rfl rfl rfl (fun h => ?_) (fun h => ?_)
  refine WL.val (Val.assignB rfl) rfl ?_
  refine WL.nil ?_
  refine WX.thenC ?_
  refine WC.condT rfl ?_
  refine WC.skip ?_
  refine WX.thenC ?_
  refine WC.condT rfl ?_
  refine WC.seq ?_
  refine WC.region ?_
  refine WL.val (Val.fldAddr rfl) rfl ?_
  refine WL.val (Val.ldO 1 rfl rfl rfl) rfl ?_
  refine WL.val (Val.build0) rfl ?_
  refine WL.eqS rfl rfl rfl rfl rfl (fun h => ?_) (fun h => ?_)
  refine WL.val (Val.moveB rfl) rfl ?_
  refine WL.gT rfl rfl ?_
  refine WL.val (Val.fldAddr rfl) rfl ?_
  refine WL.gT rfl rfl ?_
  refine WL.val (Val.loadS rfl (Rd.own1 1 rfl rfl)) rfl ?_
  refine WL.gT rfl rfl ?_
  refine WL.val (Val.len rfl) rfl ?_
  refine WL.gT rfl rfl ?_
  refine WL.leI rfl rfl rfl (fun h => ?_) (fun h => ?_)
  refine WL.val (Val.pick rfl) rfl ?_
  refine WL.val (Val.assignB rfl) rfl ?_
  refine WL.nil ?_
  refine WX.thenC ?_
  refine WC.ret ?_
  refine WX.inRet ?_
  refine WX.thenRet ?_
  rotate_left
  refine WL.val (Val.pick rfl) rfl ?_
  refine WL.val (Val.assignB rfl) rfl ?_
  refine WL.nil ?_
  refine WX.thenC ?_
  refine WC.ret ?_
  refine WX.inRet ?_
  refine WX.thenRet ?_
  rotate_left
  refine WL.val (Val.moveB rfl) rfl ?_
  refine WL.gF rfl rfl rfl rfl ?_
  refine WL.gF rfl rfl rfl rfl ?_
  refine WL.gF rfl rfl rfl rfl ?_
  refine WL.gF rfl rfl rfl rfl ?_
  refine WL.val (Val.pick rfl) rfl ?_
  refine WL.val (Val.assignB rfl) rfl ?_
  refine WL.nil ?_
  refine WX.thenC ?_
  refine WC.ret ?_
  refine WX.inRet ?_
  refine WX.thenRet ?_
  rotate_left
  refine WL.val (Val.assignB rfl) rfl ?_
  refine WL.nil ?_
  refine WX.thenC ?_
  refine WC.condF rfl ?_
  refine WC.region ?_
  refine WL.eqI rfl rfl rfl (fun h => ?_) (fun h => ?_)
  refine WL.val (Val.assignB rfl) rfl ?_
  refine WL.nil ?_
  refine WX.thenC ?_
  refine WC.condT rfl ?_
  refine WC.seq ?_
  refine WC.region ?_
  refine WL.val (Val.fldAddr rfl) rfl ?_
  refine WL.val (Val.ldO 1 rfl rfl rfl) rfl ?_
  refine WL.val (Val.build0) rfl ?_
  refine WL.eqS rfl rfl rfl rfl rfl (fun h => ?_) (fun h => ?_)
  refine WL.val (Val.moveB rfl) rfl ?_
  refine WL.gT rfl rfl ?_
  refine WL.val (Val.fldAddr rfl) rfl ?_
  refine WL.gT rfl rfl ?_
  refine WL.val (Val.loadS rfl (Rd.own1 1 rfl rfl)) rfl ?_
  refine WL.gT rfl rfl ?_
  refine WL.val (Val.len rfl) rfl ?_
  refine WL.gT rfl rfl ?_
  refine WL.leI rfl rfl rfl (fun h => ?_) (fun h => ?_)
  refine WL.val (Val.pick rfl) rfl ?_
  refine WL.val (Val.assignB rfl) rfl ?_
  refine WL.nil ?_
  refine WX.thenC ?_
  refine WC.ret ?_
  refine WX.inRet ?_
  refine WX.thenRet ?_
  rotate_left
  refine WL.val (Val.pick rfl) rfl ?_
  refine WL.val (Val.assignB rfl) rfl ?_
  refine WL.nil ?_
  refine WX.thenC ?_
  refine WC.ret ?_
  refine WX.inRet ?_
  refine WX.thenRet ?_
  rotate_left
  refine WL.val (Val.moveB rfl) rfl ?_
  refine WL.gF rfl rfl rfl rfl ?_
  refine WL.gF rfl rfl rfl rfl ?_
  refine WL.gF rfl rfl rfl rfl ?_
  refine WL.gF rfl rfl rfl rfl ?_
  refine WL.val (Val.pick rfl) rfl ?_
  refine WL.val (Val.assignB rfl) rfl ?_
  refine WL.nil ?_
  refine WX.thenC ?_
  refine WC.ret ?_
  refine WX.inRet ?_
  refine WX.thenRet ?_
  rotate_left
  refine WL.val (Val.assignB rfl) rfl ?_
  refine WL.nil ?_
  refine WX.thenC ?_
  refine WC.condF rfl ?_
  refine WC.skip ?_
  refine WX.inNormal ?_
  refine WX.thenC ?_
  refine WC.seq ?_
  refine WC.region ?_
  refine WL.val (Val.assignB rfl) rfl ?_
  refine WL.nil ?_
  refine WX.thenC ?_
  refine WC.ret ?_
  rotate_left
  refine WL.val (Val.pick rfl) rfl ?_
  refine WL.val (Val.moveB rfl) rfl ?_
  refine WL.gT rfl rfl ?_
  refine WL.val (Val.fldAddr rfl) rfl ?_
  refine WL.gT rfl rfl ?_
  refine WL.val (Val.loadS rfl (Rd.own1 1 rfl rfl)) rfl ?_
  refine WL.gT rfl rfl ?_
  refine WL.val (Val.len rfl) rfl ?_
  refine WL.gT rfl rfl ?_
  refine WL.gtI rfl rfl rfl (fun h => ?_) (fun h => ?_)
  refine WL.val (Val.pick rfl) rfl ?_
  refine WL.val (Val.assignB rfl) rfl ?_
  refine WL.nil ?_
  refine WX.thenC ?_
  refine WC.seq ?_
  refine WC.seq ?_
  refine WC.region ?_
  refine WL.val (Val.fldAddr rfl) rfl ?_
  refine WL.val (Val.loadS rfl (Rd.own1 1 rfl rfl)) rfl ?_
  refine WL.nil ?_
  refine WX.thenC ?_
  refine WC.block ?_
  refine WC.seq ?_
  refine WC.region ?_
  refine WL.eqI rfl rfl rfl (fun h => ?_) (fun h => ?_)
  refine WL.val (Val.assignB rfl) rfl ?_
  refine WL.nil ?_
  refine WX.thenC ?_
  refine WC.condT rfl ?_
  refine WC.seq ?_
  refine WC.region ?_
  refine WL.val (Val.moveB rfl) rfl ?_
  refine WL.val (Val.not rfl) rfl ?_
  refine WL.val (Val.moveB rfl) rfl ?_
  refine WL.gF rfl rfl rfl rfl ?_
  refine WL.gF rfl rfl rfl rfl ?_
  refine WL.gF rfl rfl rfl rfl ?_
  refine WL.gF rfl rfl rfl rfl ?_
  refine WL.val (Val.pick rfl) rfl ?_
  refine WL.val (Val.assignB rfl) rfl ?_
  refine WL.nil ?_
  refine WX.thenC ?_
  refine WC.ret ?_
  refine WX.inRet ?_
  refine WX.thenRet ?_
  rotate_left
  refine WL.val (Val.assignB rfl) rfl ?_
  refine WL.nil ?_
  refine WX.thenC ?_
  refine WC.condF rfl ?_
  refine WC.seq ?_
  refine WC.region ?_
  refine WL.eqI rfl rfl rfl (fun h => ?_) (fun h => ?_)
  refine WL.val (Val.assignB rfl) rfl ?_
  refine WL.nil ?_
  refine WX.thenC ?_
  refine WC.condT rfl ?_
  refine WC.seq ?_
  refine WC.region ?_
  refine WL.val (Val.moveB rfl) rfl ?_
  refine WL.val (Val.not rfl) rfl ?_
  refine WL.val (Val.assignB rfl) rfl ?_
  refine WL.nil ?_
  refine WX.thenC ?_
  refine WC.ret ?_
  refine WX.inRet ?_
  refine WX.thenRet ?_
  rotate_left
  refine WL.val (Val.assignB rfl) rfl ?_
  refine WL.nil ?_
  refine WX.thenC ?_
  refine WC.condF rfl ?_
  refine WC.seq ?_
  refine WC.seq ?_
  refine WC.region ?_
  refine WL.eqI rfl rfl rfl (fun h => ?_) (fun h => ?_)
  refine WL.val (Val.assignB rfl) rfl ?_
  refine WL.nil ?_
  refine WX.thenC ?_
  refine WC.condT rfl ?_
  refine WC.skip ?_
  refine WX.thenC ?_
  refine WC.condT rfl ?_
  refine WC.seq ?_
  refine WC.region ?_
  refine WL.val (Val.fldAddr rfl) rfl ?_
  refine WL.val (Val.ldO 1 rfl rfl rfl) rfl ?_
  refine WL.val (Val.build0) rfl ?_
  refine WL.eqS rfl rfl rfl rfl rfl (fun h => ?_) (fun h => ?_)
  refine WL.val (Val.moveB rfl) rfl ?_
  refine WL.gT rfl rfl ?_
  refine WL.val (Val.fldAddr rfl) rfl ?_
  refine WL.gT rfl rfl ?_
  refine WL.val (Val.loadS rfl (Rd.own1 1 rfl rfl)) rfl ?_
  refine WL.gT rfl rfl ?_
  refine WL.val (Val.len rfl) rfl ?_
  refine WL.gT rfl rfl ?_
  refine WL.leI rfl rfl rfl (fun h => ?_) (fun h => ?_)
  refine WL.val (Val.pick rfl) rfl ?_
  refine WL.val (Val.assignB rfl) rfl ?_
  refine WL.nil ?_
  refine WX.thenC ?_
  refine WC.ret ?_
  refine WX.inRet ?_
  refine WX.thenRet ?_
  rotate_left
  refine WL.val (Val.pick rfl) rfl ?_
  refine WL.val (Val.assignB rfl) rfl ?_
  refine WL.nil ?_
  refine WX.thenC ?_
  refine WC.ret ?_
  refine WX.inRet ?_
  refine WX.thenRet ?_
  rotate_left
  refine WL.val (Val.moveB rfl) rfl ?_
  refine WL.gF rfl rfl rfl rfl ?_
  refine WL.gF rfl rfl rfl rfl ?_
  refine WL.gF rfl rfl rfl rfl ?_
  refine WL.gF rfl rfl rfl rfl ?_
  refine WL.val (Val.pick rfl) rfl ?_
  refine WL.val (Val.assignB rfl) rfl ?_
  refine WL.nil ?_
  refine WX.thenC ?_
  refine WC.ret ?_
  refine WX.inRet ?_
  refine WX.thenRet ?_
  rotate_left
  refine WL.val (Val.assignB rfl) rfl ?_
  refine WL.nil ?_
  refine WX.thenC ?_
  refine WC.condF rfl ?_
  refine WC.region ?_
  refine WL.eqI rfl rfl rfl (fun h => ?_) (fun h => ?_)
  refine WL.val (Val.assignB rfl) rfl ?_
  refine WL.nil ?_
  refine WX.thenC ?_
  refine WC.condT rfl ?_
  refine WC.seq ?_
  refine WC.region ?_
  refine WL.val (Val.fldAddr rfl) rfl ?_
  refine WL.val (Val.ldO 1 rfl rfl rfl) rfl ?_
  refine WL.val (Val.build0) rfl ?_
  refine WL.eqS rfl rfl rfl rfl rfl (fun h => ?_) (fun h => ?_)
  refine WL.val (Val.moveB rfl) rfl ?_
  refine WL.gT rfl rfl ?_
  refine WL.val (Val.fldAddr rfl) rfl ?_
  refine WL.gT rfl rfl ?_
  refine WL.val (Val.loadS rfl (Rd.own1 1 rfl rfl)) rfl ?_
  refine WL.gT rfl rfl ?_
  refine WL.val (Val.len rfl) rfl ?_
  refine WL.gT rfl rfl ?_
  refine WL.leI rfl rfl rfl (fun h => ?_) (fun h => ?_)
  refine WL.val (Val.pick rfl) rfl ?_
  refine WL.val (Val.assignB rfl) rfl ?_
  refine WL.nil ?_
  refine WX.thenC ?_
  refine WC.ret ?_
  refine WX.inRet ?_
  refine WX.thenRet ?_
  rotate_left
  refine WL.val (Val.pick rfl) rfl ?_
  refine WL.val (Val.assignB rfl) rfl ?_
  refine WL.nil ?_
  refine WX.thenC ?_
  refine WC.ret ?_
  refine WX.inRet ?_
  refine WX.thenRet ?_
  rotate_left
  refine WL.val (Val.moveB rfl) rfl ?_
  refine WL.gF rfl rfl rfl rfl ?_
  refine WL.gF rfl rfl rfl rfl ?_
  refine WL.gF rfl rfl rfl rfl ?_
  refine WL.gF rfl rfl rfl rfl ?_
  refine WL.val (Val.pick rfl) rfl ?_
  refine WL.val (Val.assignB rfl) rfl ?_
  refine WL.nil ?_
  refine WX.thenC ?_
  refine WC.ret ?_
  refine WX.inRet ?_
  refine WX.thenRet ?_
  rotate_left
  refine WL.val (Val.assignB rfl) rfl ?_
  refine WL.nil ?_
  refine WX.thenC ?_
  refine WC.condF rfl ?_
  refine WC.skip ?_
  refine WX.inNormal ?_
  refine WX.thenC ?_
  refine WC.seq ?_
  refine WC.region ?_
  refine WL.val (Val.assignB rfl) rfl ?_
  refine WL.nil ?_
  refine WX.thenC ?_
  refine WC.ret ?_
  rotate_left
  refine WL.val (Val.pick rfl) rfl ?_
  refine WL.val (Val.assignB rfl) rfl ?_
  refine WL.nil ?_
  refine WX.thenC ?_
  refine WC.seq ?_
  refine WC.seq ?_
  refine WC.region ?_
  refine WL.val (Val.fldAddr rfl) rfl ?_
  refine WL.val (Val.loadS rfl (Rd.own1 1 rfl rfl)) rfl ?_
  refine WL.nil ?_
  refine WX.thenC ?_
  refine WC.block ?_
  refine WC.seq ?_
  refine WC.region ?_
  refine WL.eqI rfl rfl rfl (fun h => ?_) (fun h => ?_)
  refine WL.val (Val.assignB rfl) rfl ?_
  refine WL.nil ?_
  refine WX.thenC ?_
  refine WC.condT rfl ?_
  refine WC.seq ?_
  refine WC.region ?_
  refine WL.val (Val.moveB rfl) rfl ?_
  refine WL.val (Val.not rfl) rfl ?_
  refine WL.val (Val.moveB rfl) rfl ?_
  refine WL.gT rfl rfl ?_
  refine WL.val (Val.fldAddr rfl) rfl ?_
  refine WL.gT rfl rfl ?_
  refine WL.val (Val.ldO 1 rfl rfl rfl) rfl ?_
  refine WL.gT rfl rfl ?_
  refine WL.val (Val.build0) rfl ?_
  refine WL.gT rfl rfl ?_
  refine WL.eqS rfl rfl rfl rfl rfl (fun h => ?_) (fun h => ?_)
  refine WL.val (Val.pick rfl) rfl ?_
  refine WL.val (Val.assignB rfl) rfl ?_
  refine WL.nil ?_
  refine WX.thenC ?_
  refine WC.ret ?_
  refine WX.inRet ?_
  refine WX.thenRet ?_
  rotate_left
  refine WL.val (Val.pick rfl) rfl ?_
  refine WL.val (Val.assignB rfl) rfl ?_
  refine WL.nil ?_
  refine WX.thenC ?_
  refine WC.ret ?_
  refine WX.inRet ?_
  refine WX.thenRet ?_
  rotate_left
  refine WL.val (Val.assignB rfl) rfl ?_
  refine WL.nil ?_
  refine WX.thenC ?_
  refine WC.condF rfl ?_
  refine WC.seq ?_
  refine WC.region ?_
  refine WL.eqI rfl rfl rfl (fun h => ?_) (fun h => ?_)
  refine WL.val (Val.assignB rfl) rfl ?_
  refine WL.nil ?_
  refine WX.thenC ?_
  refine WC.condT rfl ?_
  refine WC.seq ?_
  refine WC.region ?_
  refine WL.val (Val.moveB rfl) rfl ?_
  refine WL.val (Val.not rfl) rfl ?_
  refine WL.val (Val.assignB rfl) rfl ?_
  refine WL.nil ?_
  refine WX.thenC ?_
  refine WC.ret ?_
  refine WX.inRet ?_
  refine WX.thenRet ?_
  rotate_left
  refine WL.val (Val.assignB rfl) rfl ?_
  refine WL.nil ?_
  refine WX.thenC ?_
  refine WC.condF rfl ?_
  refine WC.seq ?_
  refine WC.seq ?_
  refine WC.region ?_
  refine WL.eqI rfl rfl rfl (fun h => ?_) (fun h => ?_)
  refine WL.val (Val.assignB rfl) rfl ?_
  refine WL.nil ?_
  refine WX.thenC ?_
  refine WC.condT rfl ?_
  refine WC.skip ?_
  refine WX.thenC ?_
  refine WC.condT rfl ?_
  refine WC.seq ?_
  refine WC.region ?_
  refine WL.val (Val.fldAddr rfl) rfl ?_
  refine WL.val (Val.ldO 1 rfl rfl rfl) rfl ?_
  refine WL.val (Val.build0) rfl ?_
  refine WL.eqS rfl rfl rfl rfl rfl (fun h => ?_) (fun h => ?_)
  refine WL.val (Val.moveB rfl) rfl ?_
  refine WL.gT rfl rfl ?_
  refine WL.val (Val.fldAddr rfl) rfl ?_
  refine WL.gT rfl rfl ?_
  refine WL.val (Val.loadS rfl (Rd.own1 1 rfl rfl)) rfl ?_
  refine WL.gT rfl rfl ?_
  refine WL.val (Val.len rfl) rfl ?_
  refine WL.gT rfl rfl ?_
  refine WL.val (Val.leq rfl rfl (decide_eq_true (by omega))) rfl ?_
  refine WL.val (Val.pick rfl) rfl ?_
  refine WL.val (Val.assignB rfl) rfl ?_
  refine WL.nil ?_
  refine WX.thenC ?_
  refine WC.ret ?_
  refine WX.inRet ?_
  refine WX.thenRet ?_
  rotate_left
  refine WL.val (Val.moveB rfl) rfl ?_
  refine WL.gF rfl rfl rfl rfl ?_
  refine WL.gF rfl rfl rfl rfl ?_
  refine WL.gF rfl rfl rfl rfl ?_
  refine WL.gF rfl rfl rfl rfl ?_
  refine WL.val (Val.pick rfl) rfl ?_
  refine WL.val (Val.assignB rfl) rfl ?_
  refine WL.nil ?_
  refine WX.thenC ?_
  refine WC.ret ?_
  refine WX.inRet ?_
  refine WX.thenRet ?_
  rotate_left
  refine WL.val (Val.assignB rfl) rfl ?_
  refine WL.nil ?_
  refine WX.thenC ?_
  refine WC.condF rfl ?_
  refine WC.region ?_
  refine WL.eqI rfl rfl rfl (fun h => ?_) (fun h => ?_)
  refine WL.val (Val.assignB rfl) rfl ?_
  refine WL.nil ?_
  refine WX.thenC ?_
  refine WC.condT rfl ?_
  refine WC.seq ?_
  refine WC.region ?_
  refine WL.val (Val.fldAddr rfl) rfl ?_
  refine WL.val (Val.ldO 1 rfl rfl rfl) rfl ?_
  refine WL.val (Val.build0) rfl ?_
  refine WL.eqS rfl rfl rfl rfl rfl (fun h => ?_) (fun h => ?_)
  refine WL.val (Val.moveB rfl) rfl ?_
  refine WL.gT rfl rfl ?_
  refine WL.val (Val.fldAddr rfl) rfl ?_
  refine WL.gT rfl rfl ?_
  refine WL.val (Val.loadS rfl (Rd.own1 1 rfl rfl)) rfl ?_
  refine WL.gT rfl rfl ?_
  refine WL.val (Val.len rfl) rfl ?_
  refine WL.gT rfl rfl ?_
  refine WL.val (Val.leq rfl rfl (decide_eq_true (by omega))) rfl ?_
  refine WL.val (Val.pick rfl) rfl ?_
  refine WL.val (Val.assignB rfl) rfl ?_
  refine WL.nil ?_
  refine WX.thenC ?_
  refine WC.ret ?_
  refine WX.inRet ?_
  refine WX.thenRet ?_
  rotate_left
  refine WL.val (Val.moveB rfl) rfl ?_
  refine WL.gF rfl rfl rfl rfl ?_
  refine WL.gF rfl rfl rfl rfl ?_
  refine WL.gF rfl rfl rfl rfl ?_
  refine WL.gF rfl rfl rfl rfl ?_
  refine WL.val (Val.pick rfl) rfl ?_
  refine WL.val (Val.assignB rfl) rfl ?_
  refine WL.nil ?_
  refine WX.thenC ?_
  refine WC.ret ?_
  refine WX.inRet ?_
  refine WX.thenRet ?_
  rotate_left
  refine WL.val (Val.assignB rfl) rfl ?_
  refine WL.nil ?_
  refine WX.thenC ?_
  refine WC.condF rfl ?_
  refine WC.skip ?_
  refine WX.inNormal ?_
  refine WX.thenC ?_
  refine WC.seq ?_
  refine WC.region ?_
  refine WL.val (Val.assignB rfl) rfl ?_
  refine WL.nil ?_
  refine WX.thenC ?_
  refine WC.ret ?_
  rotate_left
  all_goals
    apply WX.doneP (ks := [])
    case hres => exact RunRes.r1 rfl (ResIs.tmpB rfl)
    case hI => first | exact Mem.le.refl _ | assumption
  all_goals refine ⟨rfl, rfl, ?_⟩
  all_goals unfold Pnt.pl
  all_goals rw [Col.z_iff, Pt.z_iff, Pt.z_iff, nil_iff]
  all_goals generalize p.stops.length = n at *
  all_goals (refine ⟨_, rfl, ?_⟩; (try simp_all) <;> omega)
theorem plainStyle_ctr (s : Sty) (t u d : Value) (I : Mem) (hs : s.at_ I t u d) :
    Ctr Tryd.prog 30 [.agg (s.cs t u d).toArray] I [] (Still I (EqP s.pl)) := by
  obtain ⟨a1, c1, a2, c2, a3, c3, rfl, rfl, rfl⟩ := hs.sl
  refine Ctr.intro Tryd.func30 rfl rfl rfl fun E F => ?_
  refine WC.seq ?_
  refine WC.region ?_
  (refine WL.boxA rfl rfl ?_; intro _)
  refine WL.nApp ?_
  refine WL.val (Val.assignB rfl) rfl ?_
  refine WL.nil ?_
  refine WX.thenC ?_
  refine WC.seq ?_
  refine WC.region ?_
  refine WL.val (Val.fldAddr rfl) rfl ?_
  refine WL.val (Val.ldO 1 rfl rfl rfl) rfl ?_
  refine WL.callE rfl rfl (plainPaint_ctr s.fill _ _ hs.fill) rfl (fun h1 => ?_) (fun h1 => ?_)
  · skip
    refine WL.val (Val.moveB rfl) rfl ?_
    refine WL.gT rfl rfl ?_
    refine WL.val (Val.fldAddr rfl) rfl ?_
    refine WL.gT rfl rfl ?_
    refine WL.val (Val.ldO 1 rfl rfl rfl) rfl ?_
    refine WL.gT rfl rfl ?_
    refine WL.callE rfl rfl (plainPaint_ctr s.pen _ _ hs.pen) rfl (fun h2 => ?_) (fun h2 => ?_)
    · skip
      refine WL.val (Val.pick rfl) rfl ?_
      refine WL.val (Val.moveB rfl) rfl ?_
      refine WL.gT rfl rfl ?_
      refine WL.val (Val.fldAddr rfl) rfl ?_
      refine WL.gT rfl rfl ?_
      refine WL.val (Val.fldAddr rfl) rfl ?_
      refine WL.gT rfl rfl ?_
      refine WL.val (Val.loadS rfl (Rd.own1 1 rfl rfl)) rfl ?_
      refine WL.gT rfl rfl ?_
      refine WL.val (Val.len rfl) rfl ?_
      refine WL.gT rfl rfl ?_
      refine WL.leI rfl rfl rfl (fun h => ?_) (fun h => ?_)
      refine WL.val (Val.pick rfl) rfl ?_
      refine WL.val (Val.assignB rfl) rfl ?_
      refine WL.nil ?_
      refine WX.thenC ?_
      refine WC.ret ?_
      · skip
        apply WX.doneP (ks := [])
        case hres => exact RunRes.r1 rfl (ResIs.tmpB rfl)
        case hI => first | exact Mem.le.refl _ | assumption
        exact ⟨rfl, rfl, EqP.t ⟨h1, h2, by omega⟩⟩
      · skip
        refine WL.val (Val.pick rfl) rfl ?_
        refine WL.val (Val.assignB rfl) rfl ?_
        refine WL.nil ?_
        refine WX.thenC ?_
        refine WC.ret ?_
        apply WX.doneP (ks := [])
        case hres => exact RunRes.r1 rfl (ResIs.tmpB rfl)
        case hI => first | exact Mem.le.refl _ | assumption
        exact ⟨rfl, rfl, EqP.f fun e => by have := e.2.2; omega⟩
    · skip
      refine WL.val (Val.pick rfl) rfl ?_
      refine WL.val (Val.moveB rfl) rfl ?_
      refine WL.gF rfl rfl rfl rfl ?_
      refine WL.gF rfl rfl rfl rfl ?_
      refine WL.gF rfl rfl rfl rfl ?_
      refine WL.gF rfl rfl rfl rfl ?_
      refine WL.gF rfl rfl rfl rfl ?_
      refine WL.val (Val.pick rfl) rfl ?_
      refine WL.val (Val.assignB rfl) rfl ?_
      refine WL.nil ?_
      refine WX.thenC ?_
      refine WC.ret ?_
      apply WX.doneP (ks := [])
      case hres => exact RunRes.r1 rfl (ResIs.tmpB rfl)
      case hI => first | exact Mem.le.refl _ | assumption
      exact ⟨rfl, rfl, EqP.f fun e => h2 e.2.1⟩
  · skip
    refine WL.val (Val.moveB rfl) rfl ?_
    refine WL.gF rfl rfl rfl rfl ?_
    refine WL.gF rfl rfl rfl rfl ?_
    refine WL.gF rfl rfl rfl rfl ?_
    refine WL.val (Val.pick rfl) rfl ?_
    refine WL.val (Val.moveB rfl) rfl ?_
    refine WL.gF rfl rfl rfl rfl ?_
    refine WL.gF rfl rfl rfl rfl ?_
    refine WL.gF rfl rfl rfl rfl ?_
    refine WL.gF rfl rfl rfl rfl ?_
    refine WL.gF rfl rfl rfl rfl ?_
    refine WL.val (Val.pick rfl) rfl ?_
    refine WL.val (Val.assignB rfl) rfl ?_
    refine WL.nil ?_
    refine WX.thenC ?_
    refine WC.ret ?_
    apply WX.doneP (ks := [])
    case hres => exact RunRes.r1 rfl (ResIs.tmpB rfl)
    case hI => first | exact Mem.le.refl _ | assumption
    exact ⟨rfl, rfl, EqP.f fun e => h1 e.1⟩
theorem need3 (k : Int) : (need k : Int) ≤ 3 := by have := need_le k; omega
theorem plainSeg_ctr (s : Sg) (I : Mem) (hN : NeedAt I) :
    Ctr Tryd.prog 32 [.agg s.cs.toArray] I [] (Still I (EqP s.pl)) := by
  refine Ctr.intro Tryd.func32 rfl rfl rfl fun E F => ?_
  by_cases hk : 1 ≤ s.kind ∧ s.kind ≤ 5
  · skip
    refine WC.seq ?_
    refine WC.region ?_
    (refine WL.boxA rfl rfl ?_; intro _)
    refine WL.nApp ?_
    refine WL.val (Val.assignB rfl) rfl ?_
    refine WL.nil ?_
    refine WX.thenC ?_
    refine WC.seq ?_
    refine WC.seq ?_
    refine WC.region ?_
    refine WL.val (Val.fldAddr rfl) rfl ?_
    refine WL.val (Val.loadS rfl (Rd.own1 1 rfl rfl)) rfl ?_
    refine WL.val (Val.lss rfl rfl (decide_eq_false (by omega))) rfl ?_
    refine WL.val (Val.moveB rfl) rfl ?_
    refine WL.gT rfl rfl ?_
    refine WL.val (Val.fldAddr rfl) rfl ?_
    refine WL.gT rfl rfl ?_
    refine WL.val (Val.loadS rfl (Rd.own1 1 rfl rfl)) rfl ?_
    refine WL.gT rfl rfl ?_
    refine WL.val (Val.gtr rfl rfl (decide_eq_false (by omega))) rfl ?_
    refine WL.val (Val.pick rfl) rfl ?_
    refine WL.nil ?_
    refine WX.thenC ?_
    refine WC.condF rfl ?_
    refine WC.skip ?_
    refine WX.thenC ?_
    refine WC.seq ?_
    refine WC.seq ?_
    refine WC.region ?_
    refine WL.val (Val.fldAddr rfl) rfl ?_
    refine WL.val (Val.ldO 1 rfl rfl rfl) rfl ?_
    refine WL.val (Val.moveI rfl) rfl ?_
    refine WL.nil ?_
    refine WX.thenC ?_
    refine WC.block ?_
    rename_i g
    refine WC.loop (fun n ρ' I' L' => ∃ k : Nat, n = 3 - k ∧ k ≤ 3 ∧ I' = I ∧ ρ' 1 = ptr g ∧ ρ' 14 = .agg #[vi s.p0.x, vi s.p0.y, vi s.p1.x, vi s.p1.y, vi s.p2.x, vi s.p2.y] ∧ ρ' 15 = vi k ∧
        L' = [F, box g 44 s.cs] ∧ (0 < k → need s.kind ≤ 0 → s.p0 = Pt.z) ∧ (1 < k → need s.kind ≤ 1 → s.p1 = Pt.z) ∧ (2 < k → need s.kind ≤ 2 → s.p2 = Pt.z))
      3 ⟨0, rfl, by omega, rfl, rfl, rfl, rfl, rfl, fun h => by omega, fun h => by omega, fun h => by omega⟩ ?_
    rintro n ρ' I0 L' ⟨k, rfl, hk3, rfl, h1, h14, h15, rfl, q0, q1, q2⟩
    rw [← upd_self h15, ← upd_self h14, ← upd_self h1]
    clear h15 h14 h1
    have hcase : k = 0 ∨ k = 1 ∨ k = 2 ∨ k = 3 := by omega
    rcases hcase with rfl | rfl | rfl | rfl
    · skip
      refine WC.seq ?_
      refine WC.region ?_
      refine WL.val (Val.lss rfl rfl (decide_eq_true (by omega))) rfl ?_
      refine WL.nil ?_
      refine WX.thenC ?_
      refine WC.seq ?_
      refine WC.condT rfl ?_
      refine WC.skip ?_
      refine WX.thenC ?_
      refine WC.seq ?_
      refine WC.block ?_
      refine WC.seq ?_
      refine WC.region ?_
      refine WL.val (Val.moveI rfl) rfl ?_
      refine WL.val (Val.indexA (vs := s.p0.cs) rfl rfl (by decide) (by decide) rfl) rfl ?_
      (refine WL.alloc rfl ?_; intro _)
      refine WL.nApp ?_
      refine WL.val (Val.assignI rfl) rfl ?_
      refine WL.stA 2 rfl rfl rfl rfl ?_
      refine WL.nil ?_
      refine WX.thenC ?_
      refine WC.seq ?_
      refine WC.region ?_
      refine WL.val (Val.moveI rfl) rfl ?_
      refine WL.val (Val.fldAddr rfl) rfl ?_
      refine WL.val (Val.loadS rfl (Rd.own1 1 rfl rfl)) rfl ?_
      refine WL.callS rfl rfl (need_ctr s.kind _ hN) rfl ?_
      rintro _ rfl
      by_cases hn : need s.kind ≤ 0
      · have hn' : (need s.kind : Int) ≤ 0 := by omega
        refine WL.val (Val.geq rfl rfl (decide_eq_true (by omega))) rfl ?_
        refine WL.val (Val.moveB rfl) rfl ?_
        refine WL.gT rfl rfl ?_
        refine WL.val (Val.ldO 2 rfl rfl rfl) rfl ?_
        refine WL.gT rfl rfl ?_
        refine WL.val (Val.build0) rfl ?_
        refine WL.gT rfl rfl ?_
        refine WL.neS rfl rfl rfl rfl rfl (fun h => ?_) (fun h => ?_)
        refine WL.val (Val.pick rfl) rfl ?_
        refine WL.nil ?_
        refine WX.thenC ?_
        refine WC.condT rfl ?_
        refine WC.seq ?_
        refine WC.region ?_
        refine WL.val (Val.assignB rfl) rfl ?_
        refine WL.nil ?_
        refine WX.thenC ?_
        refine WC.ret ?_
        refine WX.inRet ?_
        refine WX.thenRet ?_
        refine WX.thenRet ?_
        refine WX.inRet ?_
        refine WX.thenRet ?_
        · skip
          apply WX.doneP (ks := [])
          case hres => exact RunRes.r1 rfl (ResIs.tmpB rfl)
          case hI => first | exact Mem.le.refl _ | assumption
          exact ⟨rfl, rfl, EqP.f fun e => h (by rw [e.2.2.1 hn])⟩
        · skip
          refine WL.val (Val.pick rfl) rfl ?_
          refine WL.nil ?_
          refine WX.thenC ?_
          refine WC.condF rfl ?_
          refine WC.skip ?_
          refine WX.inNormal ?_
          refine WX.thenC ?_
          refine WC.region ?_
          refine WL.val (Val.add rfl rfl (wrap_i64 (by omega) (by omega))) rfl ?_
          refine WL.val (Val.moveI rfl) rfl ?_
          refine WL.nil ?_
          refine WX.conv (fun w h => h.sub [0, 0] rfl) ?_
          exact WX.thenK (WK.round 2 (by omega) ⟨1, rfl, by omega, rfl, rfl, rfl, rfl, rfl, fun _ _ => Pt.inj h, fun h => by omega, fun h => by omega⟩)
      · have hn' : ¬ (need s.kind : Int) ≤ 0 := by omega
        refine WL.val (Val.geq rfl rfl (decide_eq_false (by omega))) rfl ?_
        refine WL.val (Val.moveB rfl) rfl ?_
        refine WL.gF rfl rfl rfl rfl ?_
        refine WL.gF rfl rfl rfl rfl ?_
        refine WL.gF rfl rfl rfl rfl ?_
        refine WL.val (Val.pick rfl) rfl ?_
        refine WL.nil ?_
        refine WX.thenC ?_
        refine WC.condF rfl ?_
        refine WC.skip ?_
        refine WX.inNormal ?_
        refine WX.thenC ?_
        refine WC.region ?_
        refine WL.val (Val.add rfl rfl (wrap_i64 (by omega) (by omega))) rfl ?_
        refine WL.val (Val.moveI rfl) rfl ?_
        refine WL.nil ?_
        refine WX.conv (fun w h => h.sub [0, 0] rfl) ?_
        exact WX.thenK (WK.round 2 (by omega) ⟨1, rfl, by omega, rfl, rfl, rfl, rfl, rfl, fun _ h => by omega, fun h => by omega, fun h => by omega⟩)
    · skip
      refine WC.seq ?_
      refine WC.region ?_
      refine WL.val (Val.lss rfl rfl (decide_eq_true (by omega))) rfl ?_
      refine WL.nil ?_
      refine WX.thenC ?_
      refine WC.seq ?_
      refine WC.condT rfl ?_
      refine WC.skip ?_
      refine WX.thenC ?_
      refine WC.seq ?_
      refine WC.block ?_
      refine WC.seq ?_
      refine WC.region ?_
      refine WL.val (Val.moveI rfl) rfl ?_
      refine WL.val (Val.indexA (vs := s.p1.cs) rfl rfl (by decide) (by decide) rfl) rfl ?_
      (refine WL.alloc rfl ?_; intro _)
      refine WL.nApp ?_
      refine WL.val (Val.assignI rfl) rfl ?_
      refine WL.stA 2 rfl rfl rfl rfl ?_
      refine WL.nil ?_
      refine WX.thenC ?_
      refine WC.seq ?_
      refine WC.region ?_
      refine WL.val (Val.moveI rfl) rfl ?_
      refine WL.val (Val.fldAddr rfl) rfl ?_
      refine WL.val (Val.loadS rfl (Rd.own1 1 rfl rfl)) rfl ?_
      refine WL.callS rfl rfl (need_ctr s.kind _ hN) rfl ?_
      rintro _ rfl
      by_cases hn : need s.kind ≤ 1
      · have hn' : (need s.kind : Int) ≤ 1 := by omega
        refine WL.val (Val.geq rfl rfl (decide_eq_true (by omega))) rfl ?_
        refine WL.val (Val.moveB rfl) rfl ?_
        refine WL.gT rfl rfl ?_
        refine WL.val (Val.ldO 2 rfl rfl rfl) rfl ?_
        refine WL.gT rfl rfl ?_
        refine WL.val (Val.build0) rfl ?_
        refine WL.gT rfl rfl ?_
        refine WL.neS rfl rfl rfl rfl rfl (fun h => ?_) (fun h => ?_)
        refine WL.val (Val.pick rfl) rfl ?_
        refine WL.nil ?_
        refine WX.thenC ?_
        refine WC.condT rfl ?_
        refine WC.seq ?_
        refine WC.region ?_
        refine WL.val (Val.assignB rfl) rfl ?_
        refine WL.nil ?_
        refine WX.thenC ?_
        refine WC.ret ?_
        refine WX.inRet ?_
        refine WX.thenRet ?_
        refine WX.thenRet ?_
        refine WX.inRet ?_
        refine WX.thenRet ?_
        · skip
          apply WX.doneP (ks := [])
          case hres => exact RunRes.r1 rfl (ResIs.tmpB rfl)
          case hI => first | exact Mem.le.refl _ | assumption
          exact ⟨rfl, rfl, EqP.f fun e => h (by rw [e.2.2.2.1 hn])⟩
        · skip
          refine WL.val (Val.pick rfl) rfl ?_
          refine WL.nil ?_
          refine WX.thenC ?_
          refine WC.condF rfl ?_
          refine WC.skip ?_
          refine WX.inNormal ?_
          refine WX.thenC ?_
          refine WC.region ?_
          refine WL.val (Val.add rfl rfl (wrap_i64 (by omega) (by omega))) rfl ?_
          refine WL.val (Val.moveI rfl) rfl ?_
          refine WL.nil ?_
          refine WX.conv (fun w h => h.sub [0, 0] rfl) ?_
          exact WX.thenK (WK.round 1 (by omega) ⟨2, rfl, by omega, rfl, rfl, rfl, rfl, rfl, fun _ h => q0 (by omega) h, fun _ _ => Pt.inj h, fun h => by omega⟩)
      · have hn' : ¬ (need s.kind : Int) ≤ 1 := by omega
        refine WL.val (Val.geq rfl rfl (decide_eq_false (by omega))) rfl ?_
        refine WL.val (Val.moveB rfl) rfl ?_
        refine WL.gF rfl rfl rfl rfl ?_
        refine WL.gF rfl rfl rfl rfl ?_
        refine WL.gF rfl rfl rfl rfl ?_
        refine WL.val (Val.pick rfl) rfl ?_
        refine WL.nil ?_
        refine WX.thenC ?_
        refine WC.condF rfl ?_
        refine WC.skip ?_
        refine WX.inNormal ?_
        refine WX.thenC ?_
        refine WC.region ?_
        refine WL.val (Val.add rfl rfl (wrap_i64 (by omega) (by omega))) rfl ?_
        refine WL.val (Val.moveI rfl) rfl ?_
        refine WL.nil ?_
        refine WX.conv (fun w h => h.sub [0, 0] rfl) ?_
        exact WX.thenK (WK.round 1 (by omega) ⟨2, rfl, by omega, rfl, rfl, rfl, rfl, rfl, fun _ h => q0 (by omega) h, fun _ h => by omega, fun h => by omega⟩)
    · skip
      refine WC.seq ?_
      refine WC.region ?_
      refine WL.val (Val.lss rfl rfl (decide_eq_true (by omega))) rfl ?_
      refine WL.nil ?_
      refine WX.thenC ?_
      refine WC.seq ?_
      refine WC.condT rfl ?_
      refine WC.skip ?_
      refine WX.thenC ?_
      refine WC.seq ?_
      refine WC.block ?_
      refine WC.seq ?_
      refine WC.region ?_
      refine WL.val (Val.moveI rfl) rfl ?_
      refine WL.val (Val.indexA (vs := s.p2.cs) rfl rfl (by decide) (by decide) rfl) rfl ?_
      (refine WL.alloc rfl ?_; intro _)
      refine WL.nApp ?_
      refine WL.val (Val.assignI rfl) rfl ?_
      refine WL.stA 2 rfl rfl rfl rfl ?_
      refine WL.nil ?_
      refine WX.thenC ?_
      refine WC.seq ?_
      refine WC.region ?_
      refine WL.val (Val.moveI rfl) rfl ?_
      refine WL.val (Val.fldAddr rfl) rfl ?_
      refine WL.val (Val.loadS rfl (Rd.own1 1 rfl rfl)) rfl ?_
      refine WL.callS rfl rfl (need_ctr s.kind _ hN) rfl ?_
      rintro _ rfl
      by_cases hn : need s.kind ≤ 2
      · have hn' : (need s.kind : Int) ≤ 2 := by omega
        refine WL.val (Val.geq rfl rfl (decide_eq_true (by omega))) rfl ?_
        refine WL.val (Val.moveB rfl) rfl ?_
        refine WL.gT rfl rfl ?_
        refine WL.val (Val.ldO 2 rfl rfl rfl) rfl ?_
        refine WL.gT rfl rfl ?_
        refine WL.val (Val.build0) rfl ?_
        refine WL.gT rfl rfl ?_
        refine WL.neS rfl rfl rfl rfl rfl (fun h => ?_) (fun h => ?_)
        refine WL.val (Val.pick rfl) rfl ?_
        refine WL.nil ?_
        refine WX.thenC ?_
        refine WC.condT rfl ?_
        refine WC.seq ?_
        refine WC.region ?_
        refine WL.val (Val.assignB rfl) rfl ?_
        refine WL.nil ?_
        refine WX.thenC ?_
        refine WC.ret ?_
        refine WX.inRet ?_
        refine WX.thenRet ?_
        refine WX.thenRet ?_
        refine WX.inRet ?_
        refine WX.thenRet ?_
        · skip
          apply WX.doneP (ks := [])
          case hres => exact RunRes.r1 rfl (ResIs.tmpB rfl)
          case hI => first | exact Mem.le.refl _ | assumption
          exact ⟨rfl, rfl, EqP.f fun e => h (by rw [e.2.2.2.2 hn])⟩
        · skip
          refine WL.val (Val.pick rfl) rfl ?_
          refine WL.nil ?_
          refine WX.thenC ?_
          refine WC.condF rfl ?_
          refine WC.skip ?_
          refine WX.inNormal ?_
          refine WX.thenC ?_
          refine WC.region ?_
          refine WL.val (Val.add rfl rfl (wrap_i64 (by omega) (by omega))) rfl ?_
          refine WL.val (Val.moveI rfl) rfl ?_
          refine WL.nil ?_
          refine WX.conv (fun w h => h.sub [0, 0] rfl) ?_
          exact WX.thenK (WK.round 0 (by omega) ⟨3, rfl, by omega, rfl, rfl, rfl, rfl, rfl, fun _ h => q0 (by omega) h, fun _ h => q1 (by omega) h, fun _ _ => Pt.inj h⟩)
      · have hn' : ¬ (need s.kind : Int) ≤ 2 := by omega
        refine WL.val (Val.geq rfl rfl (decide_eq_false (by omega))) rfl ?_
        refine WL.val (Val.moveB rfl) rfl ?_
        refine WL.gF rfl rfl rfl rfl ?_
        refine WL.gF rfl rfl rfl rfl ?_
        refine WL.gF rfl rfl rfl rfl ?_
        refine WL.val (Val.pick rfl) rfl ?_
        refine WL.nil ?_
        refine WX.thenC ?_
        refine WC.condF rfl ?_
        refine WC.skip ?_
        refine WX.inNormal ?_
        refine WX.thenC ?_
        refine WC.region ?_
        refine WL.val (Val.add rfl rfl (wrap_i64 (by omega) (by omega))) rfl ?_
        refine WL.val (Val.moveI rfl) rfl ?_
        refine WL.nil ?_
        refine WX.conv (fun w h => h.sub [0, 0] rfl) ?_
        exact WX.thenK (WK.round 0 (by omega) ⟨3, rfl, by omega, rfl, rfl, rfl, rfl, rfl, fun _ h => q0 (by omega) h, fun _ h => q1 (by omega) h, fun _ h => by omega⟩)
    · skip
      refine WC.seq ?_
      refine WC.region ?_
      refine WL.val (Val.lss rfl rfl (decide_eq_false (by omega))) rfl ?_
      refine WL.nil ?_
      refine WX.thenC ?_
      refine WC.seq ?_
      refine WC.condF rfl ?_
      refine WC.exit ?_
      refine WX.thenExit ?_
      refine WX.thenExit ?_
      refine WX.inHit ?_
      refine WX.thenC ?_
      refine WC.seq ?_
      refine WC.region ?_
      refine WL.val (Val.assignB rfl) rfl ?_
      refine WL.nil ?_
      refine WX.thenC ?_
      refine WC.ret ?_
      apply WX.doneP (ks := [])
      case hres => exact RunRes.r1 rfl (ResIs.tmpB rfl)
      case hI => first | exact Mem.le.refl _ | assumption
      exact ⟨rfl, rfl, EqP.t ⟨hk.1, hk.2, q0 (by omega), q1 (by omega), q2 (by omega)⟩⟩
  · skip
    refine WC.seq ?_
    refine WC.region ?_
    (refine WL.boxA rfl rfl ?_; intro _)
    refine WL.nApp ?_
    refine WL.val (Val.assignB rfl) rfl ?_
    refine WL.nil ?_
    refine WX.thenC ?_
    refine WC.seq ?_
    refine WC.seq ?_
    refine WC.region ?_
    refine WL.val (Val.fldAddr rfl) rfl ?_
    refine WL.val (Val.loadS rfl (Rd.own1 1 rfl rfl)) rfl ?_
    refine WL.ltI rfl rfl rfl (fun h => ?_) (fun h => ?_)
    refine WL.val (Val.moveB rfl) rfl ?_
    refine WL.gF rfl rfl rfl rfl ?_
    refine WL.gF rfl rfl rfl rfl ?_
    refine WL.gF rfl rfl rfl rfl ?_
    refine WL.val (Val.pick rfl) rfl ?_
    refine WL.nil ?_
    refine WX.thenC ?_
    refine WC.condT rfl ?_
    refine WC.seq ?_
    refine WC.region ?_
    refine WL.val (Val.assignB rfl) rfl ?_
    refine WL.nil ?_
    refine WX.thenC ?_
    refine WC.ret ?_
    refine WX.thenRet ?_
    rotate_left
    refine WL.val (Val.moveB rfl) rfl ?_
    refine WL.gT rfl rfl ?_
    refine WL.val (Val.fldAddr rfl) rfl ?_
    refine WL.gT rfl rfl ?_
    refine WL.val (Val.loadS rfl (Rd.own1 1 rfl rfl)) rfl ?_
    refine WL.gT rfl rfl ?_
    refine WL.val (Val.gtr rfl rfl (decide_eq_true (by omega))) rfl ?_
    refine WL.val (Val.pick rfl) rfl ?_
    refine WL.nil ?_
    refine WX.thenC ?_
    refine WC.condT rfl ?_
    refine WC.seq ?_
    refine WC.region ?_
    refine WL.val (Val.assignB rfl) rfl ?_
    refine WL.nil ?_
    refine WX.thenC ?_
    refine WC.ret ?_
    refine WX.thenRet ?_
    rotate_left
    all_goals
      apply WX.doneP (ks := [])
      case hres => exact RunRes.r1 rfl (ResIs.tmpB rfl)
      case hI => first | exact Mem.le.refl _ | assumption
    all_goals refine ⟨rfl, rfl, ?_⟩
    all_goals exact EqP.f fun e => hk ⟨e.1, e.2.1⟩
end Go.Proofs.YtfdeckdongonnaaDoor
