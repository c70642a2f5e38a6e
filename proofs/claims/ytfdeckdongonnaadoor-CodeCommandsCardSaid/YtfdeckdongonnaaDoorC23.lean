/-
  Code, the walks: are two things one? (2)
-/
import Derived.Test.YtfdeckdongonnaaDoorC22
import Derived.Test.YtfdeckdongonnaaDoorSepH
namespace Go.Proofs.YtfdeckdongonnaaDoor
open Go.Sl Go.Cd
set_option maxRecDepth 100000
set_option maxHeartbeats 4000000
set_option linter.unusedVariables false
attribute [local irreducible] WC WL WX WK WA WAK Val Ctr RunRes ResIs Rd At sl box pt Exit.then Exit.inBlock bodyPost Code.wp wpList
theorem eqSty (p q : Sty) (t u d t2 u2 d2 : Value) (I : Mem) (hp : p.at_ I t u d) (hq : q.at_ I t2 u2 d2) :
    Ctr Tryd.prog 62 [.agg (p.cs t u d).toArray, .agg (q.cs t2 u2 d2).toArray] I [] (Still I (EqP (p = q))) := by
  have hp0 := hp
  have hq0 := hq
  obtain ⟨a1, c1, a2, c2, a3, c3, rfl, rfl, rfl⟩ := hp.sl
  obtain ⟨b1, d1, b2, d2, b3, d3, rfl, rfl, rfl⟩ := hq.sl
  refine Ctr.intro Tryd.func62 rfl rfl rfl fun E F => ?_
  refine WC.seq ?_
  refine WC.region ?_
  (refine WL.box rfl rfl ?_; intro _)
  refine WL.nApp ?_
  (refine WL.box rfl rfl ?_; intro _)
  refine WL.nApp ?_
  refine WL.val (Val.assignB rfl) rfl ?_
  refine WL.nil ?_
  refine WX.thenC ?_
  refine WC.seq ?_
  refine WC.region ?_
  refine WL.ap1 ?_
  refine WL.val (Val.fldAddr rfl) rfl ?_
  refine WL.ap1 ?_
  refine WL.val (Val.loadO 1 rfl rfl rfl) rfl ?_
  refine WL.ap1 ?_
  refine WL.val (Val.fldAddr rfl) rfl ?_
  refine WL.ap1 ?_
  refine WL.val (Val.loadO 2 rfl rfl rfl) rfl ?_
  refine WL.ap1 ?_
  refine WL.callE rfl rfl (eqPnt p.fill q.fill _ _ _ hp.fill hq.fill) rfl (fun h => ?_) (fun h => ?_)
  refine WL.ap1 ?_
  refine WL.val (Val.moveB rfl) rfl ?_
  refine WL.ap1 ?_
  refine WL.gT rfl rfl ?_
  refine WL.val (Val.fldAddr rfl) rfl ?_
  refine WL.ap1 ?_
  refine WL.gT rfl rfl ?_
  refine WL.val (Val.loadO 1 rfl rfl rfl) rfl ?_
  refine WL.ap1 ?_
  refine WL.gT rfl rfl ?_
  refine WL.val (Val.fldAddr rfl) rfl ?_
  refine WL.ap1 ?_
  refine WL.gT rfl rfl ?_
  refine WL.val (Val.loadO 2 rfl rfl rfl) rfl ?_
  refine WL.ap1 ?_
  refine WL.gT rfl rfl ?_
  refine WL.callE rfl rfl (eqPnt p.pen q.pen _ _ _ hp.pen hq.pen) rfl (fun h => ?_) (fun h => ?_)
  refine WL.ap1 ?_
  refine WL.val (Val.pick rfl) rfl ?_
  refine WL.ap1 ?_
  refine WL.val (Val.moveB rfl) rfl ?_
  refine WL.ap1 ?_
  refine WL.gT rfl rfl ?_
  refine WL.val (Val.fldAddr rfl) rfl ?_
  refine WL.ap1 ?_
  refine WL.gT rfl rfl ?_
  refine WL.val (Val.loadS rfl (Rd.own1 1 rfl rfl)) rfl ?_
  refine WL.ap1 ?_
  refine WL.gT rfl rfl ?_
  refine WL.val (Val.fldAddr rfl) rfl ?_
  refine WL.ap1 ?_
  refine WL.gT rfl rfl ?_
  refine WL.val (Val.loadS rfl (Rd.own1 2 rfl rfl)) rfl ?_
  refine WL.ap1 ?_
  refine WL.gT rfl rfl ?_
  refine WL.eqI rfl rfl rfl (fun h => ?_) (fun h => ?_)
  refine WL.ap1 ?_
  refine WL.val (Val.pick rfl) rfl ?_
  refine WL.ap1 ?_
  refine WL.val (Val.moveB rfl) rfl ?_
  refine WL.ap1 ?_
  refine WL.gT rfl rfl ?_
  refine WL.val (Val.fldAddr rfl) rfl ?_
  refine WL.ap1 ?_
  refine WL.gT rfl rfl ?_
  refine WL.val (Val.loadS rfl (Rd.own1 1 rfl rfl)) rfl ?_
  refine WL.ap1 ?_
  refine WL.gT rfl rfl ?_
  refine WL.val (Val.fldAddr rfl) rfl ?_
  refine WL.ap1 ?_
  refine WL.gT rfl rfl ?_
  refine WL.val (Val.loadS rfl (Rd.own1 2 rfl rfl)) rfl ?_
  refine WL.ap1 ?_
  refine WL.gT rfl rfl ?_
  refine WL.eqI rfl rfl rfl (fun h => ?_) (fun h => ?_)
  refine WL.ap1 ?_
  refine WL.val (Val.pick rfl) rfl ?_
  refine WL.ap1 ?_
  refine WL.val (Val.moveB rfl) rfl ?_
  refine WL.ap1 ?_
  refine WL.gT rfl rfl ?_
  refine WL.val (Val.fldAddr rfl) rfl ?_
  refine WL.ap1 ?_
  refine WL.gT rfl rfl ?_
  refine WL.val (Val.loadS rfl (Rd.own1 1 rfl rfl)) rfl ?_
  refine WL.ap1 ?_
  refine WL.gT rfl rfl ?_
  refine WL.val (Val.fldAddr rfl) rfl ?_
  refine WL.ap1 ?_
  refine WL.gT rfl rfl ?_
  refine WL.val (Val.loadS rfl (Rd.own1 2 rfl rfl)) rfl ?_
  refine WL.ap1 ?_
  refine WL.gT rfl rfl ?_
  refine WL.eqI rfl rfl rfl (fun h => ?_) (fun h => ?_)
  refine WL.ap1 ?_
  refine WL.val (Val.pick rfl) rfl ?_
  refine WL.ap0 ?_
  refine WL.val (Val.moveB rfl) rfl ?_
  refine WL.gT rfl rfl ?_
  refine WL.val (Val.fldAddr rfl) rfl ?_
  refine WL.gT rfl rfl ?_
  refine WL.val (Val.fldAddr rfl) rfl ?_
  refine WL.gT rfl rfl ?_
  refine WL.val (Val.loadS rfl (Rd.own1 1 rfl rfl)) rfl ?_
  refine WL.gT rfl rfl ?_
  refine WL.val (Val.fldAddr rfl) rfl ?_
  refine WL.gT rfl rfl ?_
  refine WL.val (Val.fldAddr rfl) rfl ?_
  refine WL.gT rfl rfl ?_
  refine WL.val (Val.loadS rfl (Rd.own1 2 rfl rfl)) rfl ?_
  refine WL.gT rfl rfl ?_
  refine WL.callE rfl rfl (eqInt _ _ _ _ _ hp.dash hq.dash) rfl (fun h => ?_) (fun h => ?_)
  refine WL.val (Val.pick rfl) rfl ?_
  refine WL.val (Val.moveB rfl) rfl ?_
  refine WL.gT rfl rfl ?_
  refine WL.val (Val.fldAddr rfl) rfl ?_
  refine WL.gT rfl rfl ?_
  refine WL.val (Val.fldAddr rfl) rfl ?_
  refine WL.gT rfl rfl ?_
  refine WL.val (Val.loadS rfl (Rd.own1 1 rfl rfl)) rfl ?_
  refine WL.gT rfl rfl ?_
  refine WL.val (Val.fldAddr rfl) rfl ?_
  refine WL.gT rfl rfl ?_
  refine WL.val (Val.fldAddr rfl) rfl ?_
  refine WL.gT rfl rfl ?_
  refine WL.val (Val.loadS rfl (Rd.own1 2 rfl rfl)) rfl ?_
  refine WL.gT rfl rfl ?_
  refine WL.eqI rfl rfl rfl (fun h => ?_) (fun h => ?_)
  refine WL.val (Val.pick rfl) rfl ?_
  refine WL.val (Val.moveB rfl) rfl ?_
  refine WL.gT rfl rfl ?_
  refine WL.val (Val.fldAddr rfl) rfl ?_
  refine WL.gT rfl rfl ?_
  refine WL.val (Val.loadS rfl (Rd.own1 1 rfl rfl)) rfl ?_
  refine WL.gT rfl rfl ?_
  refine WL.val (Val.fldAddr rfl) rfl ?_
  refine WL.gT rfl rfl ?_
  refine WL.val (Val.loadS rfl (Rd.own1 2 rfl rfl)) rfl ?_
  refine WL.gT rfl rfl ?_
  refine WL.eqI rfl rfl rfl (fun h => ?_) (fun h => ?_)
  refine WL.val (Val.pick rfl) rfl ?_
  refine WL.val (Val.moveB rfl) rfl ?_
  refine WL.gT rfl rfl ?_
  refine WL.val (Val.fldAddr rfl) rfl ?_
  refine WL.gT rfl rfl ?_
  refine WL.val (Val.loadS rfl (Rd.own1 1 rfl rfl)) rfl ?_
  refine WL.gT rfl rfl ?_
  refine WL.val (Val.fldAddr rfl) rfl ?_
  refine WL.gT rfl rfl ?_
  refine WL.val (Val.loadS rfl (Rd.own1 2 rfl rfl)) rfl ?_
  refine WL.gT rfl rfl ?_
  refine WL.eqI rfl rfl rfl (fun h => ?_) (fun h => ?_)
  refine WL.val (Val.pick rfl) rfl ?_
  refine WL.val (Val.assignB rfl) rfl ?_
  refine WL.nil ?_
  refine WX.thenC ?_
  refine WC.ret ?_
  apply WX.doneP (ks := [])
  case hres => exact RunRes.r1 rfl (ResIs.tmpB rfl)
  case hI => first | exact Mem.le.refl _ | assumption
  rename_i h0 h1 h2 h3 h4 h5 h6 h7
  exact ⟨rfl, rfl, EqP.t (Sty.of h0 h1 h2 h3 h4 h5 h6 h7 h)⟩
  · skip
    refine WL.val (Val.pick rfl) rfl ?_
    refine WL.val (Val.assignB rfl) rfl ?_
    refine WL.nil ?_
    refine WX.thenC ?_
    refine WC.ret ?_
    apply WX.doneP (ks := [])
    case hres => exact RunRes.r1 rfl (ResIs.tmpB rfl)
    case hI => first | exact Mem.le.refl _ | assumption
    exact ⟨rfl, rfl, EqP.f fun e => h (by subst e; rfl)⟩
  · skip
    refine WL.val (Val.pick rfl) rfl ?_
    refine WL.val (Val.moveB rfl) rfl ?_
    refine WL.gF rfl rfl rfl rfl ?_
    refine WL.gF rfl rfl rfl rfl ?_
    refine WL.gF rfl rfl rfl rfl ?_
    refine WL.gF rfl rfl rfl rfl ?_
    refine WL.gF rfl rfl rfl rfl ?_
    refine WL.val (Val.pick rfl) rfl ?_
    refine WL.val (Val.assignB rfl) rfl ?_
    refine WL.nil ?_
    refine WX.thenC ?_
    refine WC.ret ?_
    apply WX.doneP (ks := [])
    case hres => exact RunRes.r1 rfl (ResIs.tmpB rfl)
    case hI => first | exact Mem.le.refl _ | assumption
    exact ⟨rfl, rfl, EqP.f fun e => h (by subst e; rfl)⟩
  · skip
    refine WL.val (Val.pick rfl) rfl ?_
    refine WL.val (Val.moveB rfl) rfl ?_
    refine WL.gF rfl rfl rfl rfl ?_
    refine WL.gF rfl rfl rfl rfl ?_
    refine WL.gF rfl rfl rfl rfl ?_
    refine WL.gF rfl rfl rfl rfl ?_
    refine WL.gF rfl rfl rfl rfl ?_
    refine WL.val (Val.pick rfl) rfl ?_
    refine WL.val (Val.moveB rfl) rfl ?_
    refine WL.gF rfl rfl rfl rfl ?_
    refine WL.gF rfl rfl rfl rfl ?_
    refine WL.gF rfl rfl rfl rfl ?_
    refine WL.gF rfl rfl rfl rfl ?_
    refine WL.gF rfl rfl rfl rfl ?_
    refine WL.val (Val.pick rfl) rfl ?_
    refine WL.val (Val.assignB rfl) rfl ?_
    refine WL.nil ?_
    refine WX.thenC ?_
    refine WC.ret ?_
    apply WX.doneP (ks := [])
    case hres => exact RunRes.r1 rfl (ResIs.tmpB rfl)
    case hI => first | exact Mem.le.refl _ | assumption
    exact ⟨rfl, rfl, EqP.f fun e => h (by subst e; rfl)⟩
  · skip
    refine WL.val (Val.pick rfl) rfl ?_
    refine WL.val (Val.moveB rfl) rfl ?_
    refine WL.gF rfl rfl rfl rfl ?_
    refine WL.gF rfl rfl rfl rfl ?_
    refine WL.gF rfl rfl rfl rfl ?_
    refine WL.gF rfl rfl rfl rfl ?_
    refine WL.gF rfl rfl rfl rfl ?_
    refine WL.gF rfl rfl rfl rfl ?_
    refine WL.gF rfl rfl rfl rfl ?_
    refine WL.val (Val.pick rfl) rfl ?_
    refine WL.val (Val.moveB rfl) rfl ?_
    refine WL.gF rfl rfl rfl rfl ?_
    refine WL.gF rfl rfl rfl rfl ?_
    refine WL.gF rfl rfl rfl rfl ?_
    refine WL.gF rfl rfl rfl rfl ?_
    refine WL.gF rfl rfl rfl rfl ?_
    refine WL.val (Val.pick rfl) rfl ?_
    refine WL.val (Val.moveB rfl) rfl ?_
    refine WL.gF rfl rfl rfl rfl ?_
    refine WL.gF rfl rfl rfl rfl ?_
    refine WL.gF rfl rfl rfl rfl ?_
    refine WL.gF rfl rfl rfl rfl ?_
    refine WL.gF rfl rfl rfl rfl ?_
    refine WL.val (Val.pick rfl) rfl ?_
    refine WL.val (Val.assignB rfl) rfl ?_
    refine WL.nil ?_
    refine WX.thenC ?_
    refine WC.ret ?_
    apply WX.doneP (ks := [])
    case hres => exact RunRes.r1 rfl (ResIs.tmpB rfl)
    case hI => first | exact Mem.le.refl _ | assumption
    exact ⟨rfl, rfl, EqP.f fun e => h (by subst e; rfl)⟩
  · skip
    refine WL.ap1 ?_
    refine WL.val (Val.pick rfl) rfl ?_
    refine WL.ap0 ?_
    refine WL.val (Val.moveB rfl) rfl ?_
    refine WL.gF rfl rfl rfl rfl ?_
    refine WL.gF rfl rfl rfl rfl ?_
    refine WL.gF rfl rfl rfl rfl ?_
    refine WL.gF rfl rfl rfl rfl ?_
    refine WL.gF rfl rfl rfl rfl ?_
    refine WL.gF rfl rfl rfl rfl ?_
    refine WL.gF rfl rfl rfl rfl ?_
    refine WL.val (Val.pick rfl) rfl ?_
    refine WL.val (Val.moveB rfl) rfl ?_
    refine WL.gF rfl rfl rfl rfl ?_
    refine WL.gF rfl rfl rfl rfl ?_
    refine WL.gF rfl rfl rfl rfl ?_
    refine WL.gF rfl rfl rfl rfl ?_
    refine WL.gF rfl rfl rfl rfl ?_
    refine WL.gF rfl rfl rfl rfl ?_
    refine WL.gF rfl rfl rfl rfl ?_
    refine WL.val (Val.pick rfl) rfl ?_
    refine WL.val (Val.moveB rfl) rfl ?_
    refine WL.gF rfl rfl rfl rfl ?_
    refine WL.gF rfl rfl rfl rfl ?_
    refine WL.gF rfl rfl rfl rfl ?_
    refine WL.gF rfl rfl rfl rfl ?_
    refine WL.gF rfl rfl rfl rfl ?_
    refine WL.val (Val.pick rfl) rfl ?_
    refine WL.val (Val.moveB rfl) rfl ?_
    refine WL.gF rfl rfl rfl rfl ?_
    refine WL.gF rfl rfl rfl rfl ?_
    refine WL.gF rfl rfl rfl rfl ?_
    refine WL.gF rfl rfl rfl rfl ?_
    refine WL.gF rfl rfl rfl rfl ?_
    refine WL.val (Val.pick rfl) rfl ?_
    refine WL.val (Val.assignB rfl) rfl ?_
    refine WL.nil ?_
    refine WX.thenC ?_
    refine WC.ret ?_
    apply WX.doneP (ks := [])
    case hres => exact RunRes.r1 rfl (ResIs.tmpB rfl)
    case hI => first | exact Mem.le.refl _ | assumption
    exact ⟨rfl, rfl, EqP.f fun e => h (by subst e; rfl)⟩
  · skip
    refine WL.ap1 ?_
    refine WL.val (Val.pick rfl) rfl ?_
    refine WL.ap1 ?_
    refine WL.val (Val.moveB rfl) rfl ?_
    refine WL.ap1 ?_
    refine WL.gF rfl rfl rfl rfl ?_
    refine WL.ap1 ?_
    refine WL.gF rfl rfl rfl rfl ?_
    refine WL.ap1 ?_
    refine WL.gF rfl rfl rfl rfl ?_
    refine WL.ap1 ?_
    refine WL.gF rfl rfl rfl rfl ?_
    refine WL.ap1 ?_
    refine WL.gF rfl rfl rfl rfl ?_
    refine WL.ap1 ?_
    refine WL.val (Val.pick rfl) rfl ?_
    refine WL.ap0 ?_
    refine WL.val (Val.moveB rfl) rfl ?_
    refine WL.gF rfl rfl rfl rfl ?_
    refine WL.gF rfl rfl rfl rfl ?_
    refine WL.gF rfl rfl rfl rfl ?_
    refine WL.gF rfl rfl rfl rfl ?_
    refine WL.gF rfl rfl rfl rfl ?_
    refine WL.gF rfl rfl rfl rfl ?_
    refine WL.gF rfl rfl rfl rfl ?_
    refine WL.val (Val.pick rfl) rfl ?_
    refine WL.val (Val.moveB rfl) rfl ?_
    refine WL.gF rfl rfl rfl rfl ?_
    refine WL.gF rfl rfl rfl rfl ?_
    refine WL.gF rfl rfl rfl rfl ?_
    refine WL.gF rfl rfl rfl rfl ?_
    refine WL.gF rfl rfl rfl rfl ?_
    refine WL.gF rfl rfl rfl rfl ?_
    refine WL.gF rfl rfl rfl rfl ?_
    refine WL.val (Val.pick rfl) rfl ?_
    refine WL.val (Val.moveB rfl) rfl ?_
    refine WL.gF rfl rfl rfl rfl ?_
    refine WL.gF rfl rfl rfl rfl ?_
    refine WL.gF rfl rfl rfl rfl ?_
    refine WL.gF rfl rfl rfl rfl ?_
    refine WL.gF rfl rfl rfl rfl ?_
    refine WL.val (Val.pick rfl) rfl ?_
    refine WL.val (Val.moveB rfl) rfl ?_
    refine WL.gF rfl rfl rfl rfl ?_
    refine WL.gF rfl rfl rfl rfl ?_
    refine WL.gF rfl rfl rfl rfl ?_
    refine WL.gF rfl rfl rfl rfl ?_
    refine WL.gF rfl rfl rfl rfl ?_
    refine WL.val (Val.pick rfl) rfl ?_
    refine WL.val (Val.assignB rfl) rfl ?_
    refine WL.nil ?_
    refine WX.thenC ?_
    refine WC.ret ?_
    apply WX.doneP (ks := [])
    case hres => exact RunRes.r1 rfl (ResIs.tmpB rfl)
    case hI => first | exact Mem.le.refl _ | assumption
    exact ⟨rfl, rfl, EqP.f fun e => h (by subst e; rfl)⟩
  · skip
    refine WL.ap1 ?_
    refine WL.val (Val.pick rfl) rfl ?_
    refine WL.ap1 ?_
    refine WL.val (Val.moveB rfl) rfl ?_
    refine WL.ap1 ?_
    refine WL.gF rfl rfl rfl rfl ?_
    refine WL.ap1 ?_
    refine WL.gF rfl rfl rfl rfl ?_
    refine WL.ap1 ?_
    refine WL.gF rfl rfl rfl rfl ?_
    refine WL.ap1 ?_
    refine WL.gF rfl rfl rfl rfl ?_
    refine WL.ap1 ?_
    refine WL.gF rfl rfl rfl rfl ?_
    refine WL.ap1 ?_
    refine WL.val (Val.pick rfl) rfl ?_
    refine WL.ap1 ?_
    refine WL.val (Val.moveB rfl) rfl ?_
    refine WL.ap1 ?_
    refine WL.gF rfl rfl rfl rfl ?_
    refine WL.ap1 ?_
    refine WL.gF rfl rfl rfl rfl ?_
    refine WL.ap1 ?_
    refine WL.gF rfl rfl rfl rfl ?_
    refine WL.ap1 ?_
    refine WL.gF rfl rfl rfl rfl ?_
    refine WL.ap1 ?_
    refine WL.gF rfl rfl rfl rfl ?_
    refine WL.ap1 ?_
    refine WL.val (Val.pick rfl) rfl ?_
    refine WL.ap0 ?_
    refine WL.val (Val.moveB rfl) rfl ?_
    refine WL.gF rfl rfl rfl rfl ?_
    refine WL.gF rfl rfl rfl rfl ?_
    refine WL.gF rfl rfl rfl rfl ?_
    refine WL.gF rfl rfl rfl rfl ?_
    refine WL.gF rfl rfl rfl rfl ?_
    refine WL.gF rfl rfl rfl rfl ?_
    refine WL.gF rfl rfl rfl rfl ?_
    refine WL.val (Val.pick rfl) rfl ?_
    refine WL.val (Val.moveB rfl) rfl ?_
    refine WL.gF rfl rfl rfl rfl ?_
    refine WL.gF rfl rfl rfl rfl ?_
    refine WL.gF rfl rfl rfl rfl ?_
    refine WL.gF rfl rfl rfl rfl ?_
    refine WL.gF rfl rfl rfl rfl ?_
    refine WL.gF rfl rfl rfl rfl ?_
    refine WL.gF rfl rfl rfl rfl ?_
    refine WL.val (Val.pick rfl) rfl ?_
    refine WL.val (Val.moveB rfl) rfl ?_
    refine WL.gF rfl rfl rfl rfl ?_
    refine WL.gF rfl rfl rfl rfl ?_
    refine WL.gF rfl rfl rfl rfl ?_
    refine WL.gF rfl rfl rfl rfl ?_
    refine WL.gF rfl rfl rfl rfl ?_
    refine WL.val (Val.pick rfl) rfl ?_
    refine WL.val (Val.moveB rfl) rfl ?_
    refine WL.gF rfl rfl rfl rfl ?_
    refine WL.gF rfl rfl rfl rfl ?_
    refine WL.gF rfl rfl rfl rfl ?_
    refine WL.gF rfl rfl rfl rfl ?_
    refine WL.gF rfl rfl rfl rfl ?_
    refine WL.val (Val.pick rfl) rfl ?_
    refine WL.val (Val.assignB rfl) rfl ?_
    refine WL.nil ?_
    refine WX.thenC ?_
    refine WC.ret ?_
    apply WX.doneP (ks := [])
    case hres => exact RunRes.r1 rfl (ResIs.tmpB rfl)
    case hI => first | exact Mem.le.refl _ | assumption
    exact ⟨rfl, rfl, EqP.f fun e => h (by subst e; rfl)⟩
  · skip
    refine WL.ap1 ?_
    refine WL.val (Val.pick rfl) rfl ?_
    refine WL.ap1 ?_
    refine WL.val (Val.moveB rfl) rfl ?_
    refine WL.ap1 ?_
    refine WL.gF rfl rfl rfl rfl ?_
    refine WL.ap1 ?_
    refine WL.gF rfl rfl rfl rfl ?_
    refine WL.ap1 ?_
    refine WL.gF rfl rfl rfl rfl ?_
    refine WL.ap1 ?_
    refine WL.gF rfl rfl rfl rfl ?_
    refine WL.ap1 ?_
    refine WL.gF rfl rfl rfl rfl ?_
    refine WL.ap1 ?_
    refine WL.val (Val.pick rfl) rfl ?_
    refine WL.ap1 ?_
    refine WL.val (Val.moveB rfl) rfl ?_
    refine WL.ap1 ?_
    refine WL.gF rfl rfl rfl rfl ?_
    refine WL.ap1 ?_
    refine WL.gF rfl rfl rfl rfl ?_
    refine WL.ap1 ?_
    refine WL.gF rfl rfl rfl rfl ?_
    refine WL.ap1 ?_
    refine WL.gF rfl rfl rfl rfl ?_
    refine WL.ap1 ?_
    refine WL.gF rfl rfl rfl rfl ?_
    refine WL.ap1 ?_
    refine WL.val (Val.pick rfl) rfl ?_
    refine WL.ap1 ?_
    refine WL.val (Val.moveB rfl) rfl ?_
    refine WL.ap1 ?_
    refine WL.gF rfl rfl rfl rfl ?_
    refine WL.ap1 ?_
    refine WL.gF rfl rfl rfl rfl ?_
    refine WL.ap1 ?_
    refine WL.gF rfl rfl rfl rfl ?_
    refine WL.ap1 ?_
    refine WL.gF rfl rfl rfl rfl ?_
    refine WL.ap1 ?_
    refine WL.gF rfl rfl rfl rfl ?_
    refine WL.ap1 ?_
    refine WL.val (Val.pick rfl) rfl ?_
    refine WL.ap0 ?_
    refine WL.val (Val.moveB rfl) rfl ?_
    refine WL.gF rfl rfl rfl rfl ?_
    refine WL.gF rfl rfl rfl rfl ?_
    refine WL.gF rfl rfl rfl rfl ?_
    refine WL.gF rfl rfl rfl rfl ?_
    refine WL.gF rfl rfl rfl rfl ?_
    refine WL.gF rfl rfl rfl rfl ?_
    refine WL.gF rfl rfl rfl rfl ?_
    refine WL.val (Val.pick rfl) rfl ?_
    refine WL.val (Val.moveB rfl) rfl ?_
    refine WL.gF rfl rfl rfl rfl ?_
    refine WL.gF rfl rfl rfl rfl ?_
    refine WL.gF rfl rfl rfl rfl ?_
    refine WL.gF rfl rfl rfl rfl ?_
    refine WL.gF rfl rfl rfl rfl ?_
    refine WL.gF rfl rfl rfl rfl ?_
    refine WL.gF rfl rfl rfl rfl ?_
    refine WL.val (Val.pick rfl) rfl ?_
    refine WL.val (Val.moveB rfl) rfl ?_
    refine WL.gF rfl rfl rfl rfl ?_
    refine WL.gF rfl rfl rfl rfl ?_
    refine WL.gF rfl rfl rfl rfl ?_
    refine WL.gF rfl rfl rfl rfl ?_
    refine WL.gF rfl rfl rfl rfl ?_
    refine WL.val (Val.pick rfl) rfl ?_
    refine WL.val (Val.moveB rfl) rfl ?_
    refine WL.gF rfl rfl rfl rfl ?_
    refine WL.gF rfl rfl rfl rfl ?_
    refine WL.gF rfl rfl rfl rfl ?_
    refine WL.gF rfl rfl rfl rfl ?_
    refine WL.gF rfl rfl rfl rfl ?_
    refine WL.val (Val.pick rfl) rfl ?_
    refine WL.val (Val.assignB rfl) rfl ?_
    refine WL.nil ?_
    refine WX.thenC ?_
    refine WC.ret ?_
    apply WX.doneP (ks := [])
    case hres => exact RunRes.r1 rfl (ResIs.tmpB rfl)
    case hI => first | exact Mem.le.refl _ | assumption
    exact ⟨rfl, rfl, EqP.f fun e => h (by subst e; rfl)⟩
  · skip
    refine WL.ap1 ?_
    refine WL.val (Val.moveB rfl) rfl ?_
    refine WL.ap1 ?_
    refine WL.gF rfl rfl rfl rfl ?_
    refine WL.ap1 ?_
    refine WL.gF rfl rfl rfl rfl ?_
    refine WL.ap1 ?_
    refine WL.gF rfl rfl rfl rfl ?_
    refine WL.ap1 ?_
    refine WL.gF rfl rfl rfl rfl ?_
    refine WL.ap1 ?_
    refine WL.gF rfl rfl rfl rfl ?_
    refine WL.ap1 ?_
    refine WL.val (Val.pick rfl) rfl ?_
    refine WL.ap1 ?_
    refine WL.val (Val.moveB rfl) rfl ?_
    refine WL.ap1 ?_
    refine WL.gF rfl rfl rfl rfl ?_
    refine WL.ap1 ?_
    refine WL.gF rfl rfl rfl rfl ?_
    refine WL.ap1 ?_
    refine WL.gF rfl rfl rfl rfl ?_
    refine WL.ap1 ?_
    refine WL.gF rfl rfl rfl rfl ?_
    refine WL.ap1 ?_
    refine WL.gF rfl rfl rfl rfl ?_
    refine WL.ap1 ?_
    refine WL.val (Val.pick rfl) rfl ?_
    refine WL.ap1 ?_
    refine WL.val (Val.moveB rfl) rfl ?_
    refine WL.ap1 ?_
    refine WL.gF rfl rfl rfl rfl ?_
    refine WL.ap1 ?_
    refine WL.gF rfl rfl rfl rfl ?_
    refine WL.ap1 ?_
    refine WL.gF rfl rfl rfl rfl ?_
    refine WL.ap1 ?_
    refine WL.gF rfl rfl rfl rfl ?_
    refine WL.ap1 ?_
    refine WL.gF rfl rfl rfl rfl ?_
    refine WL.ap1 ?_
    refine WL.val (Val.pick rfl) rfl ?_
    refine WL.ap1 ?_
    refine WL.val (Val.moveB rfl) rfl ?_
    refine WL.ap1 ?_
    refine WL.gF rfl rfl rfl rfl ?_
    refine WL.ap1 ?_
    refine WL.gF rfl rfl rfl rfl ?_
    refine WL.ap1 ?_
    refine WL.gF rfl rfl rfl rfl ?_
    refine WL.ap1 ?_
    refine WL.gF rfl rfl rfl rfl ?_
    refine WL.ap1 ?_
    refine WL.gF rfl rfl rfl rfl ?_
    refine WL.ap1 ?_
    refine WL.val (Val.pick rfl) rfl ?_
    refine WL.ap0 ?_
    refine WL.val (Val.moveB rfl) rfl ?_
    refine WL.gF rfl rfl rfl rfl ?_
    refine WL.gF rfl rfl rfl rfl ?_
    refine WL.gF rfl rfl rfl rfl ?_
    refine WL.gF rfl rfl rfl rfl ?_
    refine WL.gF rfl rfl rfl rfl ?_
    refine WL.gF rfl rfl rfl rfl ?_
    refine WL.gF rfl rfl rfl rfl ?_
    refine WL.val (Val.pick rfl) rfl ?_
    refine WL.val (Val.moveB rfl) rfl ?_
    refine WL.gF rfl rfl rfl rfl ?_
    refine WL.gF rfl rfl rfl rfl ?_
    refine WL.gF rfl rfl rfl rfl ?_
    refine WL.gF rfl rfl rfl rfl ?_
    refine WL.gF rfl rfl rfl rfl ?_
    refine WL.gF rfl rfl rfl rfl ?_
    refine WL.gF rfl rfl rfl rfl ?_
    refine WL.val (Val.pick rfl) rfl ?_
    refine WL.val (Val.moveB rfl) rfl ?_
    refine WL.gF rfl rfl rfl rfl ?_
    refine WL.gF rfl rfl rfl rfl ?_
    refine WL.gF rfl rfl rfl rfl ?_
    refine WL.gF rfl rfl rfl rfl ?_
    refine WL.gF rfl rfl rfl rfl ?_
    refine WL.val (Val.pick rfl) rfl ?_
    refine WL.val (Val.moveB rfl) rfl ?_
    refine WL.gF rfl rfl rfl rfl ?_
    refine WL.gF rfl rfl rfl rfl ?_
    refine WL.gF rfl rfl rfl rfl ?_
    refine WL.gF rfl rfl rfl rfl ?_
    refine WL.gF rfl rfl rfl rfl ?_
    refine WL.val (Val.pick rfl) rfl ?_
    refine WL.val (Val.assignB rfl) rfl ?_
    refine WL.nil ?_
    refine WX.thenC ?_
    refine WC.ret ?_
    apply WX.doneP (ks := [])
    case hres => exact RunRes.r1 rfl (ResIs.tmpB rfl)
    case hI => first | exact Mem.le.refl _ | assumption
    exact ⟨rfl, rfl, EqP.f fun e => h (by subst e; rfl)⟩
theorem eqPath (l m : List Sg) (v u : Value) (I : Mem) (hv : LsAt Sg.rep I l v) (hu : LsAt Sg.rep I m u) :
    Ctr Tryd.prog 63 [v, u] I [] (Still I (EqP (l = m))) := by
  have hv0 := hv
  have hu0 := hu
  obtain ⟨a1, c1, rfl⟩ := hv.sl
  obtain ⟨a2, c2, rfl⟩ := hu.sl
  refine Ctr.intro Tryd.func63 rfl rfl rfl fun E F => ?_
  refine WC.seq ?_
  refine WC.region ?_
  refine WL.val (Val.assignB rfl) rfl ?_
  refine WL.nil ?_
  refine WX.thenC ?_
  refine WC.seq ?_
  refine WC.region ?_
  refine WL.val (Val.moveS rfl) rfl ?_
  refine WL.val (Val.moveS rfl) rfl ?_
  refine WL.callE rfl rfl (eqSg _ _ _ _ _ hv hu) rfl (fun h => ?_) (fun h => ?_)
  · skip
    refine WL.val (Val.assignB rfl) rfl ?_
    refine WL.nil ?_
    refine WX.thenC ?_
    refine WC.ret ?_
    apply WX.doneP (ks := [])
    case hres => exact RunRes.r1 rfl (ResIs.tmpB rfl)
    case hI => first | exact Mem.le.refl _ | assumption
    exact ⟨rfl, rfl, EqP.t h⟩
  · skip
    refine WL.val (Val.assignB rfl) rfl ?_
    refine WL.nil ?_
    refine WX.thenC ?_
    refine WC.ret ?_
    apply WX.doneP (ks := [])
    case hres => exact RunRes.r1 rfl (ResIs.tmpB rfl)
    case hI => first | exact Mem.le.refl _ | assumption
    exact ⟨rfl, rfl, EqP.f h⟩
theorem eqAtr (p q : Atr) (t u d r t2 u2 d2 r2 : Value) (I : Mem) (hp : p.at_ I t u d r) (hq : q.at_ I t2 u2 d2 r2) :
    Ctr Tryd.prog 27 [.agg (p.cs t u d r).toArray, .agg (q.cs t2 u2 d2 r2).toArray] I [] (Still I (EqP (p = q))) := by
  obtain ⟨a1, c1, a2, c2, a3, c3, a4, c4, rfl, rfl, rfl, rfl⟩ := hp.sl
  obtain ⟨b1, d1, b2, d2, b3, d3, b4, d4, rfl, rfl, rfl, rfl⟩ := hq.sl
  refine Ctr.intro Tryd.func27 rfl rfl rfl fun E F => ?_
  refine WC.seq ?_
  refine WC.region ?_
  (refine WL.box rfl rfl ?_; intro _)
  refine WL.nApp ?_
  (refine WL.box rfl rfl ?_; intro _)
  refine WL.nApp ?_
  refine WL.val (Val.assignB rfl) rfl ?_
  refine WL.nil ?_
  refine WX.thenC ?_
  refine WC.seq ?_
  refine WC.region ?_
  refine WL.val (Val.fldAddr rfl) rfl ?_
  refine WL.val (Val.loadO 1 rfl rfl rfl) rfl ?_
  refine WL.val (Val.fldAddr rfl) rfl ?_
  refine WL.val (Val.loadO 2 rfl rfl rfl) rfl ?_
  refine WL.eqS rfl rfl rfl rfl rfl (fun h => ?_) (fun h => ?_)
  refine WL.val (Val.moveB rfl) rfl ?_
  refine WL.gT rfl rfl ?_
  refine WL.val (Val.fldAddr rfl) rfl ?_
  refine WL.gT rfl rfl ?_
  refine WL.val (Val.loadO 1 rfl rfl rfl) rfl ?_
  refine WL.gT rfl rfl ?_
  refine WL.val (Val.fldAddr rfl) rfl ?_
  refine WL.gT rfl rfl ?_
  refine WL.val (Val.loadO 2 rfl rfl rfl) rfl ?_
  refine WL.gT rfl rfl ?_
  refine WL.callE rfl rfl (eqSty p.sty q.sty _ _ _ _ _ _ _ hp.sty hq.sty) rfl (fun h => ?_) (fun h => ?_)
  refine WL.val (Val.pick rfl) rfl ?_
  refine WL.val (Val.moveB rfl) rfl ?_
  refine WL.gT rfl rfl ?_
  refine WL.val (Val.fldAddr rfl) rfl ?_
  refine WL.gT rfl rfl ?_
  refine WL.val (Val.loadS rfl (Rd.own1 1 rfl rfl)) rfl ?_
  refine WL.gT rfl rfl ?_
  refine WL.val (Val.fldAddr rfl) rfl ?_
  refine WL.gT rfl rfl ?_
  refine WL.val (Val.loadS rfl (Rd.own1 2 rfl rfl)) rfl ?_
  refine WL.gT rfl rfl ?_
  refine WL.callE rfl rfl (eqPath p.path q.path _ _ _ hp.path hq.path) rfl (fun h => ?_) (fun h => ?_)
  refine WL.val (Val.pick rfl) rfl ?_
  refine WL.val (Val.assignB rfl) rfl ?_
  refine WL.nil ?_
  refine WX.thenC ?_
  refine WC.ret ?_
  apply WX.doneP (ks := [])
  case hres => exact RunRes.r1 rfl (ResIs.tmpB rfl)
  case hI => first | exact Mem.le.refl _ | assumption
  rename_i h0 h1
  exact ⟨rfl, rfl, EqP.t (Atr.of (Mtx.inj h0) h1 h)⟩
  · skip
    refine WL.val (Val.pick rfl) rfl ?_
    refine WL.val (Val.assignB rfl) rfl ?_
    refine WL.nil ?_
    refine WX.thenC ?_
    refine WC.ret ?_
    apply WX.doneP (ks := [])
    case hres => exact RunRes.r1 rfl (ResIs.tmpB rfl)
    case hI => first | exact Mem.le.refl _ | assumption
    exact ⟨rfl, rfl, EqP.f fun e => h (by subst e; rfl)⟩
  · skip
    refine WL.val (Val.pick rfl) rfl ?_
    refine WL.val (Val.moveB rfl) rfl ?_
    refine WL.gF rfl rfl rfl rfl ?_
    refine WL.gF rfl rfl rfl rfl ?_
    refine WL.gF rfl rfl rfl rfl ?_
    refine WL.gF rfl rfl rfl rfl ?_
    refine WL.gF rfl rfl rfl rfl ?_
    refine WL.val (Val.pick rfl) rfl ?_
    refine WL.val (Val.assignB rfl) rfl ?_
    refine WL.nil ?_
    refine WX.thenC ?_
    refine WC.ret ?_
    apply WX.doneP (ks := [])
    case hres => exact RunRes.r1 rfl (ResIs.tmpB rfl)
    case hI => first | exact Mem.le.refl _ | assumption
    exact ⟨rfl, rfl, EqP.f fun e => h (by subst e; rfl)⟩
  · skip
    refine WL.val (Val.moveB rfl) rfl ?_
    refine WL.gF rfl rfl rfl rfl ?_
    refine WL.gF rfl rfl rfl rfl ?_
    refine WL.gF rfl rfl rfl rfl ?_
    refine WL.gF rfl rfl rfl rfl ?_
    refine WL.gF rfl rfl rfl rfl ?_
    refine WL.val (Val.pick rfl) rfl ?_
    refine WL.val (Val.moveB rfl) rfl ?_
    refine WL.gF rfl rfl rfl rfl ?_
    refine WL.gF rfl rfl rfl rfl ?_
    refine WL.gF rfl rfl rfl rfl ?_
    refine WL.gF rfl rfl rfl rfl ?_
    refine WL.gF rfl rfl rfl rfl ?_
    refine WL.val (Val.pick rfl) rfl ?_
    refine WL.val (Val.assignB rfl) rfl ?_
    refine WL.nil ?_
    refine WX.thenC ?_
    refine WC.ret ?_
    apply WX.doneP (ks := [])
    case hres => exact RunRes.r1 rfl (ResIs.tmpB rfl)
    case hI => first | exact Mem.le.refl _ | assumption
    exact ⟨rfl, rfl, EqP.f fun e => h (by subst e; rfl)⟩
theorem eqEnt (p q : Ent) (t u d r t2 u2 d2 r2 : Value) (I : Mem) (hp : p.at_ I t u d r) (hq : q.at_ I t2 u2 d2 r2) :
    Ctr Tryd.prog 51 [.agg (p.cs t u d r).toArray, .agg (q.cs t2 u2 d2 r2).toArray] I [] (Still I (EqP (p = q))) := by
  obtain ⟨a1, c1, a2, c2, a3, c3, a4, c4, rfl, rfl, rfl, rfl⟩ := hp.sl
  obtain ⟨b1, d1, b2, d2, b3, d3, b4, d4, rfl, rfl, rfl, rfl⟩ := hq.sl
  refine Ctr.intro Tryd.func51 rfl rfl rfl fun E F => ?_
  refine WC.seq ?_
  refine WC.region ?_
  (refine WL.box rfl rfl ?_; intro _)
  refine WL.nApp ?_
  (refine WL.box rfl rfl ?_; intro _)
  refine WL.nApp ?_
  refine WL.val (Val.assignB rfl) rfl ?_
  refine WL.nil ?_
  refine WX.thenC ?_
  refine WC.seq ?_
  refine WC.region ?_
  refine WL.val (Val.fldAddr rfl) rfl ?_
  refine WL.val (Val.loadS rfl (Rd.own1 1 rfl rfl)) rfl ?_
  refine WL.val (Val.fldAddr rfl) rfl ?_
  refine WL.val (Val.loadS rfl (Rd.own1 2 rfl rfl)) rfl ?_
  refine WL.eqI rfl rfl rfl (fun h => ?_) (fun h => ?_)
  refine WL.val (Val.moveB rfl) rfl ?_
  refine WL.gT rfl rfl ?_
  refine WL.val (Val.fldAddr rfl) rfl ?_
  refine WL.gT rfl rfl ?_
  refine WL.val (Val.loadS rfl (Rd.own1 1 rfl rfl)) rfl ?_
  refine WL.gT rfl rfl ?_
  refine WL.val (Val.fldAddr rfl) rfl ?_
  refine WL.gT rfl rfl ?_
  refine WL.val (Val.loadS rfl (Rd.own1 2 rfl rfl)) rfl ?_
  refine WL.gT rfl rfl ?_
  refine WL.eqB rfl rfl rfl (fun h => ?_) (fun h => ?_)
  refine WL.val (Val.pick rfl) rfl ?_
  refine WL.val (Val.moveB rfl) rfl ?_
  refine WL.gT rfl rfl ?_
  refine WL.val (Val.fldAddr rfl) rfl ?_
  refine WL.gT rfl rfl ?_
  refine WL.val (Val.loadS rfl (Rd.own1 1 rfl rfl)) rfl ?_
  refine WL.gT rfl rfl ?_
  refine WL.val (Val.fldAddr rfl) rfl ?_
  refine WL.gT rfl rfl ?_
  refine WL.val (Val.loadS rfl (Rd.own1 2 rfl rfl)) rfl ?_
  refine WL.gT rfl rfl ?_
  refine WL.eqI rfl rfl rfl (fun h => ?_) (fun h => ?_)
  refine WL.val (Val.pick rfl) rfl ?_
  refine WL.val (Val.moveB rfl) rfl ?_
  refine WL.gT rfl rfl ?_
  refine WL.val (Val.fldAddr rfl) rfl ?_
  refine WL.gT rfl rfl ?_
  refine WL.val (Val.loadO 1 rfl rfl rfl) rfl ?_
  refine WL.gT rfl rfl ?_
  refine WL.val (Val.fldAddr rfl) rfl ?_
  refine WL.gT rfl rfl ?_
  refine WL.val (Val.loadO 2 rfl rfl rfl) rfl ?_
  refine WL.gT rfl rfl ?_
  refine WL.callE rfl rfl (eqAtr p.atr q.atr _ _ _ _ _ _ _ _ _ hp.atr hq.atr) rfl (fun h => ?_) (fun h => ?_)
  refine WL.val (Val.pick rfl) rfl ?_
  refine WL.val (Val.assignB rfl) rfl ?_
  refine WL.nil ?_
  refine WX.thenC ?_
  refine WC.ret ?_
  apply WX.doneP (ks := [])
  case hres => exact RunRes.r1 rfl (ResIs.tmpB rfl)
  case hI => first | exact Mem.le.refl _ | assumption
  rename_i h0 h1 h2
  exact ⟨rfl, rfl, EqP.t (Ent.of h0 h1 h2 h)⟩
  · skip
    refine WL.val (Val.pick rfl) rfl ?_
    refine WL.val (Val.assignB rfl) rfl ?_
    refine WL.nil ?_
    refine WX.thenC ?_
    refine WC.ret ?_
    apply WX.doneP (ks := [])
    case hres => exact RunRes.r1 rfl (ResIs.tmpB rfl)
    case hI => first | exact Mem.le.refl _ | assumption
    exact ⟨rfl, rfl, EqP.f fun e => h (by subst e; rfl)⟩
  · skip
    refine WL.val (Val.pick rfl) rfl ?_
    refine WL.val (Val.moveB rfl) rfl ?_
    refine WL.gF rfl rfl rfl rfl ?_
    refine WL.gF rfl rfl rfl rfl ?_
    refine WL.gF rfl rfl rfl rfl ?_
    refine WL.gF rfl rfl rfl rfl ?_
    refine WL.gF rfl rfl rfl rfl ?_
    refine WL.val (Val.pick rfl) rfl ?_
    refine WL.val (Val.assignB rfl) rfl ?_
    refine WL.nil ?_
    refine WX.thenC ?_
    refine WC.ret ?_
    apply WX.doneP (ks := [])
    case hres => exact RunRes.r1 rfl (ResIs.tmpB rfl)
    case hI => first | exact Mem.le.refl _ | assumption
    exact ⟨rfl, rfl, EqP.f fun e => h (by subst e; rfl)⟩
  · skip
    refine WL.val (Val.pick rfl) rfl ?_
    refine WL.val (Val.moveB rfl) rfl ?_
    refine WL.gF rfl rfl rfl rfl ?_
    refine WL.gF rfl rfl rfl rfl ?_
    refine WL.gF rfl rfl rfl rfl ?_
    refine WL.gF rfl rfl rfl rfl ?_
    refine WL.gF rfl rfl rfl rfl ?_
    refine WL.val (Val.pick rfl) rfl ?_
    refine WL.val (Val.moveB rfl) rfl ?_
    refine WL.gF rfl rfl rfl rfl ?_
    refine WL.gF rfl rfl rfl rfl ?_
    refine WL.gF rfl rfl rfl rfl ?_
    refine WL.gF rfl rfl rfl rfl ?_
    refine WL.gF rfl rfl rfl rfl ?_
    refine WL.val (Val.pick rfl) rfl ?_
    refine WL.val (Val.assignB rfl) rfl ?_
    refine WL.nil ?_
    refine WX.thenC ?_
    refine WC.ret ?_
    apply WX.doneP (ks := [])
    case hres => exact RunRes.r1 rfl (ResIs.tmpB rfl)
    case hI => first | exact Mem.le.refl _ | assumption
    exact ⟨rfl, rfl, EqP.f fun e => h (by subst e; rfl)⟩
  · skip
    refine WL.val (Val.moveB rfl) rfl ?_
    refine WL.gF rfl rfl rfl rfl ?_
    refine WL.gF rfl rfl rfl rfl ?_
    refine WL.gF rfl rfl rfl rfl ?_
    refine WL.gF rfl rfl rfl rfl ?_
    refine WL.gF rfl rfl rfl rfl ?_
    refine WL.val (Val.pick rfl) rfl ?_
    refine WL.val (Val.moveB rfl) rfl ?_
    refine WL.gF rfl rfl rfl rfl ?_
    refine WL.gF rfl rfl rfl rfl ?_
    refine WL.gF rfl rfl rfl rfl ?_
    refine WL.gF rfl rfl rfl rfl ?_
    refine WL.gF rfl rfl rfl rfl ?_
    refine WL.val (Val.pick rfl) rfl ?_
    refine WL.val (Val.moveB rfl) rfl ?_
    refine WL.gF rfl rfl rfl rfl ?_
    refine WL.gF rfl rfl rfl rfl ?_
    refine WL.gF rfl rfl rfl rfl ?_
    refine WL.gF rfl rfl rfl rfl ?_
    refine WL.gF rfl rfl rfl rfl ?_
    refine WL.val (Val.pick rfl) rfl ?_
    refine WL.val (Val.assignB rfl) rfl ?_
    refine WL.nil ?_
    refine WX.thenC ?_
    refine WC.ret ?_
    apply WX.doneP (ks := [])
    case hres => exact RunRes.r1 rfl (ResIs.tmpB rfl)
    case hI => first | exact Mem.le.refl _ | assumption
    exact ⟨rfl, rfl, EqP.f fun e => h (by subst e; rfl)⟩
theorem eqFunc (l m : List Ent) (v u : Value) (I : Mem) (hv : LsAt Ent.rep I l v) (hu : LsAt Ent.rep I m u) :
    Ctr Tryd.prog 50 [v, u, .func (.func 51) #[] #[]] I [] (Still I (EqP (l = m))) := by
  have hlb : l.length ≤ 9223372036854775807 := by obtain ⟨_, h, _⟩ := hv; exact h.le
  obtain ⟨a1, c1, rfl⟩ := hv.sl
  obtain ⟨a2, c2, rfl⟩ := hu.sl
  refine Ctr.intro Tryd.func50 rfl rfl rfl fun E F => ?_
  by_cases hne : l.length = m.length
  · skip
    refine WC.seq ?_
    refine WC.region ?_
    refine WL.val (Val.assignB rfl) rfl ?_
    refine WL.nil ?_
    refine WX.thenC ?_
    refine WC.seq ?_
    refine WC.seq ?_
    refine WC.region ?_
    refine WL.val (Val.moveS rfl) rfl ?_
    refine WL.val (Val.len rfl) rfl ?_
    refine WL.val (Val.moveS rfl) rfl ?_
    refine WL.val (Val.len rfl) rfl ?_
    refine WL.val (Val.neq rfl rfl (bne_eq_false_iff_eq.2 (by omega))) rfl ?_
    refine WL.nil ?_
    refine WX.thenC ?_
    refine WC.condF rfl ?_
    refine WC.skip ?_
    refine WX.thenC ?_
    refine WC.seq ?_
    refine WC.seq ?_
    refine WC.region ?_
    refine WL.val (Val.moveS rfl) rfl ?_
    refine WL.val (Val.len rfl) rfl ?_
    refine WL.val (Val.moveI rfl) rfl ?_
    refine WL.nil ?_
    refine WX.thenC ?_
    refine WC.block ?_
    refine WC.loop (fun q ρ' I' L' => ∃ k : Nat, q = l.length - k ∧ k ≤ l.length ∧ I' = I ∧ ρ' 1 = .slice a2 m.length c2 ∧ ρ' 2 = .func (.func 51) #[] #[] ∧ ρ' 15 = .slice a1 l.length c1 ∧ ρ' 16 = vi l.length ∧ ρ' 17 = vi k ∧ L' = [F] ∧ l.take k = m.take k)
      l.length ⟨0, rfl, by omega, rfl, rfl, rfl, rfl, rfl, rfl, rfl, rfl⟩ ?_
    rintro q ρ' I0 L' ⟨k, rfl, hk, rfl, h1, h2, h15, h16, h17, rfl, heq⟩
    rw [← upd_self h17, ← upd_self h16, ← upd_self h15, ← upd_self h2, ← upd_self h1]
    clear h17 h16 h15 h2 h1
    by_cases hkn : k < l.length
    · have hkm : k < m.length := by omega
      obtain ⟨b, off, cap', cs, he, ⟨t1, t2, t3, t4, rfl, hi⟩, hA⟩ := hv.get k hkn
      cases he
      obtain ⟨b', off', cap'', cs', he', ⟨u1, u2, u3, u4, rfl, hi'⟩, hA'⟩ := hu.get k hkm
      cases he'
      have htk := take_more heq hkn hkm
      generalize hx : l[k] = x at *
      generalize hy : m[k] = y at *
      obtain ⟨b1, r1, b2, r2, b3, r3, b4, r4, rfl, rfl, rfl, rfl⟩ := hi.sl
      obtain ⟨p1, q1, p2, q2, p3, q3, p4, q4, rfl, rfl, rfl, rfl⟩ := hi'.sl
      refine WC.seq ?_
      refine WC.region ?_
      refine WL.val (Val.lss rfl rfl (decide_eq_true (by omega))) rfl ?_
      refine WL.nil ?_
      refine WX.thenC ?_
      refine WC.seq ?_
      refine WC.condT rfl ?_
      refine WC.skip ?_
      refine WX.thenC ?_
      refine WC.seq ?_
      refine WC.block ?_
      refine WC.seq ?_
      refine WC.region ?_
      refine WL.val (Val.moveI rfl) rfl ?_
      refine WL.val (Val.indexAddr rfl rfl (by omega) (by omega)) rfl ?_
      refine WL.val (Val.loadI rfl (by assumption) rfl) rfl ?_
      (refine WL.alloc rfl ?_; intro _)
      refine WL.nApp ?_
      refine WL.val (Val.assignI rfl) rfl ?_
      refine WL.stA 1 rfl rfl rfl rfl ?_
      refine WL.nil ?_
      refine WX.thenC ?_
      refine WC.seq ?_
      refine WC.region ?_
      refine WL.val (Val.moveS rfl) rfl ?_
      refine WL.val (Val.moveI rfl) rfl ?_
      refine WL.val (Val.indexAddr rfl rfl (by omega) (by omega)) rfl ?_
      refine WL.val (Val.loadI rfl (by assumption) rfl) rfl ?_
      (refine WL.alloc rfl ?_; intro _)
      refine WL.nApp ?_
      refine WL.stA 2 rfl rfl rfl rfl ?_
      refine WL.nil ?_
      refine WX.thenC ?_
      refine WC.seq ?_
      refine WC.region ?_
      refine WL.val (Val.moveF rfl) rfl ?_
      refine WL.val (Val.ldO 1 rfl rfl rfl) rfl ?_
      refine WL.val (Val.ldO 2 rfl rfl rfl) rfl ?_
      refine WL.callE rfl rfl (eqEnt x y _ _ _ _ _ _ _ _ _ hi hi') rfl (fun h => ?_) (fun h => ?_)
      · skip
        refine WL.val (Val.not rfl) rfl ?_
        refine WL.nil ?_
        refine WX.thenC ?_
        refine WC.condF rfl ?_
        refine WC.skip ?_
        refine WX.inNormal ?_
        refine WX.thenC ?_
        refine WC.region ?_
        refine WL.val (Val.add rfl rfl (wrap_i64 (by omega) (by omega))) rfl ?_
        refine WL.val (Val.moveI rfl) rfl ?_
        refine WL.nil ?_
        refine WX.conv (fun w h => h.sub [0] rfl) ?_
        exact WX.thenK (WK.round (l.length - (k + 1)) (by omega) ⟨k + 1, rfl, by omega, rfl, rfl, rfl, rfl, rfl, rfl, rfl, htk h⟩)
      · skip
        refine WL.val (Val.not rfl) rfl ?_
        refine WL.nil ?_
        refine WX.thenC ?_
        refine WC.condT rfl ?_
        refine WC.seq ?_
        refine WC.region ?_
        refine WL.val (Val.assignB rfl) rfl ?_
        refine WL.nil ?_
        refine WX.thenC ?_
        refine WC.ret ?_
        refine WX.inRet ?_
        refine WX.thenRet ?_
        refine WX.thenRet ?_
        refine WX.inRet ?_
        refine WX.thenRet ?_
        apply WX.doneP (ks := [])
        case hres => exact RunRes.r1 rfl (ResIs.tmpB rfl)
        case hI => first | exact Mem.le.refl _ | assumption
        refine ⟨rfl, rfl, EqP.f fun e => ?_⟩
        subst e
        exact h (hx.symm.trans hy)
    · skip
      refine WC.seq ?_
      refine WC.region ?_
      refine WL.val (Val.lss rfl rfl (decide_eq_false (by omega))) rfl ?_
      refine WL.nil ?_
      refine WX.thenC ?_
      refine WC.seq ?_
      refine WC.condF rfl ?_
      refine WC.exit ?_
      refine WX.thenExit ?_
      refine WX.thenExit ?_
      refine WX.inHit ?_
      refine WX.thenC ?_
      refine WC.seq ?_
      refine WC.region ?_
      refine WL.val (Val.assignB rfl) rfl ?_
      refine WL.nil ?_
      refine WX.thenC ?_
      refine WC.ret ?_
      apply WX.doneP (ks := [])
      case hres => exact RunRes.r1 rfl (ResIs.tmpB rfl)
      case hI => first | exact Mem.le.refl _ | assumption
      refine ⟨rfl, rfl, EqP.t ?_⟩
      have : k = l.length := by omega
      rw [this, List.take_length, hne, List.take_length] at heq
      exact heq
  · skip
    refine WC.seq ?_
    refine WC.region ?_
    refine WL.val (Val.assignB rfl) rfl ?_
    refine WL.nil ?_
    refine WX.thenC ?_
    refine WC.seq ?_
    refine WC.seq ?_
    refine WC.region ?_
    refine WL.val (Val.moveS rfl) rfl ?_
    refine WL.val (Val.len rfl) rfl ?_
    refine WL.val (Val.moveS rfl) rfl ?_
    refine WL.val (Val.len rfl) rfl ?_
    refine WL.val (Val.neq rfl rfl (bne_iff_ne.2 (by omega))) rfl ?_
    refine WL.nil ?_
    refine WX.thenC ?_
    refine WC.condT rfl ?_
    refine WC.seq ?_
    refine WC.region ?_
    refine WL.val (Val.assignB rfl) rfl ?_
    refine WL.nil ?_
    refine WX.thenC ?_
    refine WC.ret ?_
    refine WX.thenRet ?_
    apply WX.doneP (ks := [])
    case hres => exact RunRes.r1 rfl (ResIs.tmpB rfl)
    case hI => first | exact Mem.le.refl _ | assumption
    exact ⟨rfl, rfl, EqP.f fun h => hne (by rw [h])⟩
theorem eqSame (l m : List Ent) (v u : Value) (I : Mem) (hv : LsAt Ent.rep I l v) (hu : LsAt Ent.rep I m u) :
    Ctr Tryd.prog 23 [v, u] I [] (Still I (EqP (l = m))) := by
  have hv0 := hv
  have hu0 := hu
  obtain ⟨a1, c1, rfl⟩ := hv.sl
  obtain ⟨a2, c2, rfl⟩ := hu.sl
  refine Ctr.intro Tryd.func23 rfl rfl rfl fun E F => ?_
  refine WC.seq ?_
  refine WC.region ?_
  refine WL.val (Val.assignB rfl) rfl ?_
  refine WL.nil ?_
  refine WX.thenC ?_
  refine WC.seq ?_
  refine WC.region ?_
  refine WL.val (Val.moveS rfl) rfl ?_
  refine WL.val (Val.moveS rfl) rfl ?_
  refine WL.callE rfl rfl (eqFunc _ _ _ _ _ hv hu) rfl (fun h => ?_) (fun h => ?_)
  · skip
    refine WL.val (Val.assignB rfl) rfl ?_
    refine WL.nil ?_
    refine WX.thenC ?_
    refine WC.ret ?_
    apply WX.doneP (ks := [])
    case hres => exact RunRes.r1 rfl (ResIs.tmpB rfl)
    case hI => first | exact Mem.le.refl _ | assumption
    exact ⟨rfl, rfl, EqP.t h⟩
  · skip
    refine WL.val (Val.assignB rfl) rfl ?_
    refine WL.nil ?_
    refine WX.thenC ?_
    refine WC.ret ?_
    apply WX.doneP (ks := [])
    case hres => exact RunRes.r1 rfl (ResIs.tmpB rfl)
    case hI => first | exact Mem.le.refl _ | assumption
    exact ⟨rfl, rfl, EqP.f h⟩
theorem eqCm (p q : Cm) (e t u d r e2 t2 u2 d2 r2 : Value) (I : Mem) (hp : p.at_ I e t u d r) (hq : q.at_ I e2 t2 u2 d2 r2) :
    Ctr Tryd.prog 10 [.agg (p.cs e t u d r).toArray, .agg (q.cs e2 t2 u2 d2 r2).toArray] I [] (Still I (EqP (p = q))) := by
  obtain ⟨a0, c0, a1, c1, a2, c2, a3, c3, a4, c4, rfl, rfl, rfl, rfl, rfl⟩ := hp.sl
  obtain ⟨b0, d0, b1, d1, b2, d2, b3, d3, b4, d4, rfl, rfl, rfl, rfl, rfl⟩ := hq.sl
  refine Ctr.intro Tryd.func10 rfl rfl rfl fun E F => ?_
  refine WC.seq ?_
  refine WC.region ?_
  (refine WL.box rfl rfl ?_; intro _)
  refine WL.nApp ?_
  (refine WL.box rfl rfl ?_; intro _)
  refine WL.nApp ?_
  refine WL.val (Val.assignB rfl) rfl ?_
  refine WL.nil ?_
  refine WX.thenC ?_
  refine WC.seq ?_
  refine WC.region ?_
  refine WL.ap1 ?_
  refine WL.val (Val.fldAddr rfl) rfl ?_
  refine WL.ap1 ?_
  refine WL.val (Val.loadS rfl (Rd.own1 1 rfl rfl)) rfl ?_
  refine WL.ap1 ?_
  refine WL.val (Val.fldAddr rfl) rfl ?_
  refine WL.ap1 ?_
  refine WL.val (Val.loadS rfl (Rd.own1 2 rfl rfl)) rfl ?_
  refine WL.ap1 ?_
  refine WL.eqI rfl rfl rfl (fun h => ?_) (fun h => ?_)
  refine WL.ap1 ?_
  refine WL.val (Val.moveB rfl) rfl ?_
  refine WL.ap1 ?_
  refine WL.gT rfl rfl ?_
  refine WL.val (Val.fldAddr rfl) rfl ?_
  refine WL.ap1 ?_
  refine WL.gT rfl rfl ?_
  refine WL.val (Val.loadS rfl (Rd.own1 1 rfl rfl)) rfl ?_
  refine WL.ap1 ?_
  refine WL.gT rfl rfl ?_
  refine WL.val (Val.fldAddr rfl) rfl ?_
  refine WL.ap1 ?_
  refine WL.gT rfl rfl ?_
  refine WL.val (Val.loadS rfl (Rd.own1 2 rfl rfl)) rfl ?_
  refine WL.ap1 ?_
  refine WL.gT rfl rfl ?_
  refine WL.eqI rfl rfl rfl (fun h => ?_) (fun h => ?_)
  refine WL.ap1 ?_
  refine WL.val (Val.pick rfl) rfl ?_
  refine WL.ap1 ?_
  refine WL.val (Val.moveB rfl) rfl ?_
  refine WL.ap1 ?_
  refine WL.gT rfl rfl ?_
  refine WL.val (Val.fldAddr rfl) rfl ?_
  refine WL.ap1 ?_
  refine WL.gT rfl rfl ?_
  refine WL.val (Val.loadS rfl (Rd.own1 1 rfl rfl)) rfl ?_
  refine WL.ap1 ?_
  refine WL.gT rfl rfl ?_
  refine WL.val (Val.fldAddr rfl) rfl ?_
  refine WL.ap1 ?_
  refine WL.gT rfl rfl ?_
  refine WL.val (Val.loadS rfl (Rd.own1 2 rfl rfl)) rfl ?_
  refine WL.ap1 ?_
  refine WL.gT rfl rfl ?_
  refine WL.eqI rfl rfl rfl (fun h => ?_) (fun h => ?_)
  refine WL.ap1 ?_
  refine WL.val (Val.pick rfl) rfl ?_
  refine WL.ap1 ?_
  refine WL.val (Val.moveB rfl) rfl ?_
  refine WL.ap1 ?_
  refine WL.gT rfl rfl ?_
  refine WL.val (Val.fldAddr rfl) rfl ?_
  refine WL.ap1 ?_
  refine WL.gT rfl rfl ?_
  refine WL.val (Val.loadS rfl (Rd.own1 1 rfl rfl)) rfl ?_
  refine WL.ap1 ?_
  refine WL.gT rfl rfl ?_
  refine WL.val (Val.fldAddr rfl) rfl ?_
  refine WL.ap1 ?_
  refine WL.gT rfl rfl ?_
  refine WL.val (Val.loadS rfl (Rd.own1 2 rfl rfl)) rfl ?_
  refine WL.ap1 ?_
  refine WL.gT rfl rfl ?_
  refine WL.eqI rfl rfl rfl (fun h => ?_) (fun h => ?_)
  refine WL.ap1 ?_
  refine WL.val (Val.pick rfl) rfl ?_
  refine WL.ap1 ?_
  refine WL.val (Val.moveB rfl) rfl ?_
  refine WL.ap1 ?_
  refine WL.gT rfl rfl ?_
  refine WL.val (Val.fldAddr rfl) rfl ?_
  refine WL.ap1 ?_
  refine WL.gT rfl rfl ?_
  refine WL.val (Val.loadS rfl (Rd.own1 1 rfl rfl)) rfl ?_
  refine WL.ap1 ?_
  refine WL.gT rfl rfl ?_
  refine WL.val (Val.fldAddr rfl) rfl ?_
  refine WL.ap1 ?_
  refine WL.gT rfl rfl ?_
  refine WL.val (Val.loadS rfl (Rd.own1 2 rfl rfl)) rfl ?_
  refine WL.ap1 ?_
  refine WL.gT rfl rfl ?_
  refine WL.eqI rfl rfl rfl (fun h => ?_) (fun h => ?_)
  refine WL.ap1 ?_
  refine WL.val (Val.pick rfl) rfl ?_
  refine WL.ap1 ?_
  refine WL.val (Val.moveB rfl) rfl ?_
  refine WL.ap1 ?_
  refine WL.gT rfl rfl ?_
  refine WL.val (Val.fldAddr rfl) rfl ?_
  refine WL.ap1 ?_
  refine WL.gT rfl rfl ?_
  refine WL.val (Val.loadS rfl (Rd.own1 1 rfl rfl)) rfl ?_
  refine WL.ap1 ?_
  refine WL.gT rfl rfl ?_
  refine WL.val (Val.fldAddr rfl) rfl ?_
  refine WL.ap1 ?_
  refine WL.gT rfl rfl ?_
  refine WL.val (Val.loadS rfl (Rd.own1 2 rfl rfl)) rfl ?_
  refine WL.ap0 ?_
  refine WL.gT rfl rfl ?_
  refine WL.eqI rfl rfl rfl (fun h => ?_) (fun h => ?_)
  refine WL.val (Val.pick rfl) rfl ?_
  refine WL.val (Val.moveB rfl) rfl ?_
  refine WL.gT rfl rfl ?_
  refine WL.val (Val.fldAddr rfl) rfl ?_
  refine WL.gT rfl rfl ?_
  refine WL.val (Val.loadS rfl (Rd.own1 1 rfl rfl)) rfl ?_
  refine WL.gT rfl rfl ?_
  refine WL.val (Val.fldAddr rfl) rfl ?_
  refine WL.gT rfl rfl ?_
  refine WL.val (Val.loadS rfl (Rd.own1 2 rfl rfl)) rfl ?_
  refine WL.gT rfl rfl ?_
  refine WL.eqI rfl rfl rfl (fun h => ?_) (fun h => ?_)
  refine WL.val (Val.pick rfl) rfl ?_
  refine WL.val (Val.moveB rfl) rfl ?_
  refine WL.gT rfl rfl ?_
  refine WL.val (Val.fldAddr rfl) rfl ?_
  refine WL.gT rfl rfl ?_
  refine WL.val (Val.loadO 1 rfl rfl rfl) rfl ?_
  refine WL.gT rfl rfl ?_
  refine WL.val (Val.fldAddr rfl) rfl ?_
  refine WL.gT rfl rfl ?_
  refine WL.val (Val.loadO 2 rfl rfl rfl) rfl ?_
  refine WL.gT rfl rfl ?_
  refine WL.eqS rfl rfl rfl rfl rfl (fun h => ?_) (fun h => ?_)
  refine WL.val (Val.pick rfl) rfl ?_
  refine WL.val (Val.moveB rfl) rfl ?_
  refine WL.gT rfl rfl ?_
  refine WL.val (Val.fldAddr rfl) rfl ?_
  refine WL.gT rfl rfl ?_
  refine WL.val (Val.loadO 1 rfl rfl rfl) rfl ?_
  refine WL.gT rfl rfl ?_
  refine WL.val (Val.fldAddr rfl) rfl ?_
  refine WL.gT rfl rfl ?_
  refine WL.val (Val.loadO 2 rfl rfl rfl) rfl ?_
  refine WL.gT rfl rfl ?_
  refine WL.eqS rfl rfl rfl rfl rfl (fun h => ?_) (fun h => ?_)
  refine WL.val (Val.pick rfl) rfl ?_
  refine WL.val (Val.moveB rfl) rfl ?_
  refine WL.gT rfl rfl ?_
  refine WL.val (Val.fldAddr rfl) rfl ?_
  refine WL.gT rfl rfl ?_
  refine WL.val (Val.loadO 1 rfl rfl rfl) rfl ?_
  refine WL.gT rfl rfl ?_
  refine WL.val (Val.fldAddr rfl) rfl ?_
  refine WL.gT rfl rfl ?_
  refine WL.val (Val.loadO 2 rfl rfl rfl) rfl ?_
  refine WL.gT rfl rfl ?_
  refine WL.callE rfl rfl (eqAtr p.atr q.atr _ _ _ _ _ _ _ _ _ hp.atr hq.atr) rfl (fun h => ?_) (fun h => ?_)
  refine WL.val (Val.pick rfl) rfl ?_
  refine WL.val (Val.moveB rfl) rfl ?_
  refine WL.gT rfl rfl ?_
  refine WL.val (Val.fldAddr rfl) rfl ?_
  refine WL.gT rfl rfl ?_
  refine WL.val (Val.loadS rfl (Rd.own1 1 rfl rfl)) rfl ?_
  refine WL.gT rfl rfl ?_
  refine WL.val (Val.fldAddr rfl) rfl ?_
  refine WL.gT rfl rfl ?_
  refine WL.val (Val.loadS rfl (Rd.own1 2 rfl rfl)) rfl ?_
  refine WL.gT rfl rfl ?_
  refine WL.callE rfl rfl (eqSame p.ents q.ents _ _ _ hp.ents hq.ents) rfl (fun h => ?_) (fun h => ?_)
  refine WL.val (Val.pick rfl) rfl ?_
  refine WL.val (Val.assignB rfl) rfl ?_
  refine WL.nil ?_
  refine WX.thenC ?_
  refine WC.ret ?_
  apply WX.doneP (ks := [])
  case hres => exact RunRes.r1 rfl (ResIs.tmpB rfl)
  case hI => first | exact Mem.le.refl _ | assumption
  rename_i h0 h1 h2 h3 h4 h5 h6 h7 h8 h9
  exact ⟨rfl, rfl, EqP.t (Cm.of h0 h1 h2 h3 h4 h5 h6 (Sg.inj h7) (Pt.inj h8) h9 h)⟩
  · skip
    refine WL.val (Val.pick rfl) rfl ?_
    refine WL.val (Val.assignB rfl) rfl ?_
    refine WL.nil ?_
    refine WX.thenC ?_
    refine WC.ret ?_
    apply WX.doneP (ks := [])
    case hres => exact RunRes.r1 rfl (ResIs.tmpB rfl)
    case hI => first | exact Mem.le.refl _ | assumption
    exact ⟨rfl, rfl, EqP.f fun e => h (by subst e; rfl)⟩
  · skip
    refine WL.val (Val.pick rfl) rfl ?_
    refine WL.val (Val.moveB rfl) rfl ?_
    refine WL.gF rfl rfl rfl rfl ?_
    refine WL.gF rfl rfl rfl rfl ?_
    refine WL.gF rfl rfl rfl rfl ?_
    refine WL.gF rfl rfl rfl rfl ?_
    refine WL.gF rfl rfl rfl rfl ?_
    refine WL.val (Val.pick rfl) rfl ?_
    refine WL.val (Val.assignB rfl) rfl ?_
    refine WL.nil ?_
    refine WX.thenC ?_
    refine WC.ret ?_
    apply WX.doneP (ks := [])
    case hres => exact RunRes.r1 rfl (ResIs.tmpB rfl)
    case hI => first | exact Mem.le.refl _ | assumption
    exact ⟨rfl, rfl, EqP.f fun e => h (by subst e; rfl)⟩
  · skip
    refine WL.val (Val.pick rfl) rfl ?_
    refine WL.val (Val.moveB rfl) rfl ?_
    refine WL.gF rfl rfl rfl rfl ?_
    refine WL.gF rfl rfl rfl rfl ?_
    refine WL.gF rfl rfl rfl rfl ?_
    refine WL.gF rfl rfl rfl rfl ?_
    refine WL.gF rfl rfl rfl rfl ?_
    refine WL.val (Val.pick rfl) rfl ?_
    refine WL.val (Val.moveB rfl) rfl ?_
    refine WL.gF rfl rfl rfl rfl ?_
    refine WL.gF rfl rfl rfl rfl ?_
    refine WL.gF rfl rfl rfl rfl ?_
    refine WL.gF rfl rfl rfl rfl ?_
    refine WL.gF rfl rfl rfl rfl ?_
    refine WL.val (Val.pick rfl) rfl ?_
    refine WL.val (Val.assignB rfl) rfl ?_
    refine WL.nil ?_
    refine WX.thenC ?_
    refine WC.ret ?_
    apply WX.doneP (ks := [])
    case hres => exact RunRes.r1 rfl (ResIs.tmpB rfl)
    case hI => first | exact Mem.le.refl _ | assumption
    exact ⟨rfl, rfl, EqP.f fun e => h (by subst e; rfl)⟩
  · skip
    refine WL.val (Val.pick rfl) rfl ?_
    refine WL.val (Val.moveB rfl) rfl ?_
    refine WL.gF rfl rfl rfl rfl ?_
    refine WL.gF rfl rfl rfl rfl ?_
    refine WL.gF rfl rfl rfl rfl ?_
    refine WL.gF rfl rfl rfl rfl ?_
    refine WL.gF rfl rfl rfl rfl ?_
    refine WL.val (Val.pick rfl) rfl ?_
    refine WL.val (Val.moveB rfl) rfl ?_
    refine WL.gF rfl rfl rfl rfl ?_
    refine WL.gF rfl rfl rfl rfl ?_
    refine WL.gF rfl rfl rfl rfl ?_
    refine WL.gF rfl rfl rfl rfl ?_
    refine WL.gF rfl rfl rfl rfl ?_
    refine WL.val (Val.pick rfl) rfl ?_
    refine WL.val (Val.moveB rfl) rfl ?_
    refine WL.gF rfl rfl rfl rfl ?_
    refine WL.gF rfl rfl rfl rfl ?_
    refine WL.gF rfl rfl rfl rfl ?_
    refine WL.gF rfl rfl rfl rfl ?_
    refine WL.gF rfl rfl rfl rfl ?_
    refine WL.val (Val.pick rfl) rfl ?_
    refine WL.val (Val.assignB rfl) rfl ?_
    refine WL.nil ?_
    refine WX.thenC ?_
    refine WC.ret ?_
    apply WX.doneP (ks := [])
    case hres => exact RunRes.r1 rfl (ResIs.tmpB rfl)
    case hI => first | exact Mem.le.refl _ | assumption
    exact ⟨rfl, rfl, EqP.f fun e => h (by subst e; rfl)⟩
  · skip
    refine WL.val (Val.pick rfl) rfl ?_
    refine WL.val (Val.moveB rfl) rfl ?_
    refine WL.gF rfl rfl rfl rfl ?_
    refine WL.gF rfl rfl rfl rfl ?_
    refine WL.gF rfl rfl rfl rfl ?_
    refine WL.gF rfl rfl rfl rfl ?_
    refine WL.gF rfl rfl rfl rfl ?_
    refine WL.val (Val.pick rfl) rfl ?_
    refine WL.val (Val.moveB rfl) rfl ?_
    refine WL.gF rfl rfl rfl rfl ?_
    refine WL.gF rfl rfl rfl rfl ?_
    refine WL.gF rfl rfl rfl rfl ?_
    refine WL.gF rfl rfl rfl rfl ?_
    refine WL.gF rfl rfl rfl rfl ?_
    refine WL.val (Val.pick rfl) rfl ?_
    refine WL.val (Val.moveB rfl) rfl ?_
    refine WL.gF rfl rfl rfl rfl ?_
    refine WL.gF rfl rfl rfl rfl ?_
    refine WL.gF rfl rfl rfl rfl ?_
    refine WL.gF rfl rfl rfl rfl ?_
    refine WL.gF rfl rfl rfl rfl ?_
    refine WL.val (Val.pick rfl) rfl ?_
    refine WL.val (Val.moveB rfl) rfl ?_
    refine WL.gF rfl rfl rfl rfl ?_
    refine WL.gF rfl rfl rfl rfl ?_
    refine WL.gF rfl rfl rfl rfl ?_
    refine WL.gF rfl rfl rfl rfl ?_
    refine WL.gF rfl rfl rfl rfl ?_
    refine WL.val (Val.pick rfl) rfl ?_
    refine WL.val (Val.assignB rfl) rfl ?_
    refine WL.nil ?_
    refine WX.thenC ?_
    refine WC.ret ?_
    apply WX.doneP (ks := [])
    case hres => exact RunRes.r1 rfl (ResIs.tmpB rfl)
    case hI => first | exact Mem.le.refl _ | assumption
    exact ⟨rfl, rfl, EqP.f fun e => h (by subst e; rfl)⟩
  · skip
    refine WL.val (Val.pick rfl) rfl ?_
    refine WL.val (Val.moveB rfl) rfl ?_
    refine WL.gF rfl rfl rfl rfl ?_
    refine WL.gF rfl rfl rfl rfl ?_
    refine WL.gF rfl rfl rfl rfl ?_
    refine WL.gF rfl rfl rfl rfl ?_
    refine WL.gF rfl rfl rfl rfl ?_
    refine WL.val (Val.pick rfl) rfl ?_
    refine WL.val (Val.moveB rfl) rfl ?_
    refine WL.gF rfl rfl rfl rfl ?_
    refine WL.gF rfl rfl rfl rfl ?_
    refine WL.gF rfl rfl rfl rfl ?_
    refine WL.gF rfl rfl rfl rfl ?_
    refine WL.gF rfl rfl rfl rfl ?_
    refine WL.val (Val.pick rfl) rfl ?_
    refine WL.val (Val.moveB rfl) rfl ?_
    refine WL.gF rfl rfl rfl rfl ?_
    refine WL.gF rfl rfl rfl rfl ?_
    refine WL.gF rfl rfl rfl rfl ?_
    refine WL.gF rfl rfl rfl rfl ?_
    refine WL.gF rfl rfl rfl rfl ?_
    refine WL.val (Val.pick rfl) rfl ?_
    refine WL.val (Val.moveB rfl) rfl ?_
    refine WL.gF rfl rfl rfl rfl ?_
    refine WL.gF rfl rfl rfl rfl ?_
    refine WL.gF rfl rfl rfl rfl ?_
    refine WL.gF rfl rfl rfl rfl ?_
    refine WL.gF rfl rfl rfl rfl ?_
    refine WL.val (Val.pick rfl) rfl ?_
    refine WL.val (Val.moveB rfl) rfl ?_
    refine WL.gF rfl rfl rfl rfl ?_
    refine WL.gF rfl rfl rfl rfl ?_
    refine WL.gF rfl rfl rfl rfl ?_
    refine WL.gF rfl rfl rfl rfl ?_
    refine WL.gF rfl rfl rfl rfl ?_
    refine WL.val (Val.pick rfl) rfl ?_
    refine WL.val (Val.assignB rfl) rfl ?_
    refine WL.nil ?_
    refine WX.thenC ?_
    refine WC.ret ?_
    apply WX.doneP (ks := [])
    case hres => exact RunRes.r1 rfl (ResIs.tmpB rfl)
    case hI => first | exact Mem.le.refl _ | assumption
    exact ⟨rfl, rfl, EqP.f fun e => h (by subst e; rfl)⟩
  · skip
    refine WL.ap1 ?_
    refine WL.val (Val.pick rfl) rfl ?_
    refine WL.ap1 ?_
    refine WL.val (Val.moveB rfl) rfl ?_
    refine WL.ap1 ?_
    refine WL.gF rfl rfl rfl rfl ?_
    refine WL.ap1 ?_
    refine WL.gF rfl rfl rfl rfl ?_
    refine WL.ap1 ?_
    refine WL.gF rfl rfl rfl rfl ?_
    refine WL.ap1 ?_
    refine WL.gF rfl rfl rfl rfl ?_
    refine WL.ap0 ?_
    refine WL.gF rfl rfl rfl rfl ?_
    refine WL.val (Val.pick rfl) rfl ?_
    refine WL.val (Val.moveB rfl) rfl ?_
    refine WL.gF rfl rfl rfl rfl ?_
    refine WL.gF rfl rfl rfl rfl ?_
    refine WL.gF rfl rfl rfl rfl ?_
    refine WL.gF rfl rfl rfl rfl ?_
    refine WL.gF rfl rfl rfl rfl ?_
    refine WL.val (Val.pick rfl) rfl ?_
    refine WL.val (Val.moveB rfl) rfl ?_
    refine WL.gF rfl rfl rfl rfl ?_
    refine WL.gF rfl rfl rfl rfl ?_
    refine WL.gF rfl rfl rfl rfl ?_
    refine WL.gF rfl rfl rfl rfl ?_
    refine WL.gF rfl rfl rfl rfl ?_
    refine WL.val (Val.pick rfl) rfl ?_
    refine WL.val (Val.moveB rfl) rfl ?_
    refine WL.gF rfl rfl rfl rfl ?_
    refine WL.gF rfl rfl rfl rfl ?_
    refine WL.gF rfl rfl rfl rfl ?_
    refine WL.gF rfl rfl rfl rfl ?_
    refine WL.gF rfl rfl rfl rfl ?_
    refine WL.val (Val.pick rfl) rfl ?_
    refine WL.val (Val.moveB rfl) rfl ?_
    refine WL.gF rfl rfl rfl rfl ?_
    refine WL.gF rfl rfl rfl rfl ?_
    refine WL.gF rfl rfl rfl rfl ?_
    refine WL.gF rfl rfl rfl rfl ?_
    refine WL.gF rfl rfl rfl rfl ?_
    refine WL.val (Val.pick rfl) rfl ?_
    refine WL.val (Val.moveB rfl) rfl ?_
    refine WL.gF rfl rfl rfl rfl ?_
    refine WL.gF rfl rfl rfl rfl ?_
    refine WL.gF rfl rfl rfl rfl ?_
    refine WL.gF rfl rfl rfl rfl ?_
    refine WL.gF rfl rfl rfl rfl ?_
    refine WL.val (Val.pick rfl) rfl ?_
    refine WL.val (Val.assignB rfl) rfl ?_
    refine WL.nil ?_
    refine WX.thenC ?_
    refine WC.ret ?_
    apply WX.doneP (ks := [])
    case hres => exact RunRes.r1 rfl (ResIs.tmpB rfl)
    case hI => first | exact Mem.le.refl _ | assumption
    exact ⟨rfl, rfl, EqP.f fun e => h (by subst e; rfl)⟩
  · skip
    refine WL.ap1 ?_
    refine WL.val (Val.pick rfl) rfl ?_
    refine WL.ap1 ?_
    refine WL.val (Val.moveB rfl) rfl ?_
    refine WL.ap1 ?_
    refine WL.gF rfl rfl rfl rfl ?_
    refine WL.ap1 ?_
    refine WL.gF rfl rfl rfl rfl ?_
    refine WL.ap1 ?_
    refine WL.gF rfl rfl rfl rfl ?_
    refine WL.ap1 ?_
    refine WL.gF rfl rfl rfl rfl ?_
    refine WL.ap1 ?_
    refine WL.gF rfl rfl rfl rfl ?_
    refine WL.ap1 ?_
    refine WL.val (Val.pick rfl) rfl ?_
    refine WL.ap1 ?_
    refine WL.val (Val.moveB rfl) rfl ?_
    refine WL.ap1 ?_
    refine WL.gF rfl rfl rfl rfl ?_
    refine WL.ap1 ?_
    refine WL.gF rfl rfl rfl rfl ?_
    refine WL.ap1 ?_
    refine WL.gF rfl rfl rfl rfl ?_
    refine WL.ap1 ?_
    refine WL.gF rfl rfl rfl rfl ?_
    refine WL.ap0 ?_
    refine WL.gF rfl rfl rfl rfl ?_
    refine WL.val (Val.pick rfl) rfl ?_
    refine WL.val (Val.moveB rfl) rfl ?_
    refine WL.gF rfl rfl rfl rfl ?_
    refine WL.gF rfl rfl rfl rfl ?_
    refine WL.gF rfl rfl rfl rfl ?_
    refine WL.gF rfl rfl rfl rfl ?_
    refine WL.gF rfl rfl rfl rfl ?_
    refine WL.val (Val.pick rfl) rfl ?_
    refine WL.val (Val.moveB rfl) rfl ?_
    refine WL.gF rfl rfl rfl rfl ?_
    refine WL.gF rfl rfl rfl rfl ?_
    refine WL.gF rfl rfl rfl rfl ?_
    refine WL.gF rfl rfl rfl rfl ?_
    refine WL.gF rfl rfl rfl rfl ?_
    refine WL.val (Val.pick rfl) rfl ?_
    refine WL.val (Val.moveB rfl) rfl ?_
    refine WL.gF rfl rfl rfl rfl ?_
    refine WL.gF rfl rfl rfl rfl ?_
    refine WL.gF rfl rfl rfl rfl ?_
    refine WL.gF rfl rfl rfl rfl ?_
    refine WL.gF rfl rfl rfl rfl ?_
    refine WL.val (Val.pick rfl) rfl ?_
    refine WL.val (Val.moveB rfl) rfl ?_
    refine WL.gF rfl rfl rfl rfl ?_
    refine WL.gF rfl rfl rfl rfl ?_
    refine WL.gF rfl rfl rfl rfl ?_
    refine WL.gF rfl rfl rfl rfl ?_
    refine WL.gF rfl rfl rfl rfl ?_
    refine WL.val (Val.pick rfl) rfl ?_
    refine WL.val (Val.moveB rfl) rfl ?_
    refine WL.gF rfl rfl rfl rfl ?_
    refine WL.gF rfl rfl rfl rfl ?_
    refine WL.gF rfl rfl rfl rfl ?_
    refine WL.gF rfl rfl rfl rfl ?_
    refine WL.gF rfl rfl rfl rfl ?_
    refine WL.val (Val.pick rfl) rfl ?_
    refine WL.val (Val.assignB rfl) rfl ?_
    refine WL.nil ?_
    refine WX.thenC ?_
    refine WC.ret ?_
    apply WX.doneP (ks := [])
    case hres => exact RunRes.r1 rfl (ResIs.tmpB rfl)
    case hI => first | exact Mem.le.refl _ | assumption
    exact ⟨rfl, rfl, EqP.f fun e => h (by subst e; rfl)⟩
  · skip
    refine WL.ap1 ?_
    refine WL.val (Val.pick rfl) rfl ?_
    refine WL.ap1 ?_
    refine WL.val (Val.moveB rfl) rfl ?_
    refine WL.ap1 ?_
    refine WL.gF rfl rfl rfl rfl ?_
    refine WL.ap1 ?_
    refine WL.gF rfl rfl rfl rfl ?_
    refine WL.ap1 ?_
    refine WL.gF rfl rfl rfl rfl ?_
    refine WL.ap1 ?_
    refine WL.gF rfl rfl rfl rfl ?_
    refine WL.ap1 ?_
    refine WL.gF rfl rfl rfl rfl ?_
    refine WL.ap1 ?_
    refine WL.val (Val.pick rfl) rfl ?_
    refine WL.ap1 ?_
    refine WL.val (Val.moveB rfl) rfl ?_
    refine WL.ap1 ?_
    refine WL.gF rfl rfl rfl rfl ?_
    refine WL.ap1 ?_
    refine WL.gF rfl rfl rfl rfl ?_
    refine WL.ap1 ?_
    refine WL.gF rfl rfl rfl rfl ?_
    refine WL.ap1 ?_
    refine WL.gF rfl rfl rfl rfl ?_
    refine WL.ap1 ?_
    refine WL.gF rfl rfl rfl rfl ?_
    refine WL.ap1 ?_
    refine WL.val (Val.pick rfl) rfl ?_
    refine WL.ap1 ?_
    refine WL.val (Val.moveB rfl) rfl ?_
    refine WL.ap1 ?_
    refine WL.gF rfl rfl rfl rfl ?_
    refine WL.ap1 ?_
    refine WL.gF rfl rfl rfl rfl ?_
    refine WL.ap1 ?_
    refine WL.gF rfl rfl rfl rfl ?_
    refine WL.ap1 ?_
    refine WL.gF rfl rfl rfl rfl ?_
    refine WL.ap0 ?_
    refine WL.gF rfl rfl rfl rfl ?_
    refine WL.val (Val.pick rfl) rfl ?_
    refine WL.val (Val.moveB rfl) rfl ?_
    refine WL.gF rfl rfl rfl rfl ?_
    refine WL.gF rfl rfl rfl rfl ?_
    refine WL.gF rfl rfl rfl rfl ?_
    refine WL.gF rfl rfl rfl rfl ?_
    refine WL.gF rfl rfl rfl rfl ?_
    refine WL.val (Val.pick rfl) rfl ?_
    refine WL.val (Val.moveB rfl) rfl ?_
    refine WL.gF rfl rfl rfl rfl ?_
    refine WL.gF rfl rfl rfl rfl ?_
    refine WL.gF rfl rfl rfl rfl ?_
    refine WL.gF rfl rfl rfl rfl ?_
    refine WL.gF rfl rfl rfl rfl ?_
    refine WL.val (Val.pick rfl) rfl ?_
    refine WL.val (Val.moveB rfl) rfl ?_
    refine WL.gF rfl rfl rfl rfl ?_
    refine WL.gF rfl rfl rfl rfl ?_
    refine WL.gF rfl rfl rfl rfl ?_
    refine WL.gF rfl rfl rfl rfl ?_
    refine WL.gF rfl rfl rfl rfl ?_
    refine WL.val (Val.pick rfl) rfl ?_
    refine WL.val (Val.moveB rfl) rfl ?_
    refine WL.gF rfl rfl rfl rfl ?_
    refine WL.gF rfl rfl rfl rfl ?_
    refine WL.gF rfl rfl rfl rfl ?_
    refine WL.gF rfl rfl rfl rfl ?_
    refine WL.gF rfl rfl rfl rfl ?_
    refine WL.val (Val.pick rfl) rfl ?_
    refine WL.val (Val.moveB rfl) rfl ?_
    refine WL.gF rfl rfl rfl rfl ?_
    refine WL.gF rfl rfl rfl rfl ?_
    refine WL.gF rfl rfl rfl rfl ?_
    refine WL.gF rfl rfl rfl rfl ?_
    refine WL.gF rfl rfl rfl rfl ?_
    refine WL.val (Val.pick rfl) rfl ?_
    refine WL.val (Val.assignB rfl) rfl ?_
    refine WL.nil ?_
    refine WX.thenC ?_
    refine WC.ret ?_
    apply WX.doneP (ks := [])
    case hres => exact RunRes.r1 rfl (ResIs.tmpB rfl)
    case hI => first | exact Mem.le.refl _ | assumption
    exact ⟨rfl, rfl, EqP.f fun e => h (by subst e; rfl)⟩
  · skip
    refine WL.ap1 ?_
    refine WL.val (Val.pick rfl) rfl ?_
    refine WL.ap1 ?_
    refine WL.val (Val.moveB rfl) rfl ?_
    refine WL.ap1 ?_
    refine WL.gF rfl rfl rfl rfl ?_
    refine WL.ap1 ?_
    refine WL.gF rfl rfl rfl rfl ?_
    refine WL.ap1 ?_
    refine WL.gF rfl rfl rfl rfl ?_
    refine WL.ap1 ?_
    refine WL.gF rfl rfl rfl rfl ?_
    refine WL.ap1 ?_
    refine WL.gF rfl rfl rfl rfl ?_
    refine WL.ap1 ?_
    refine WL.val (Val.pick rfl) rfl ?_
    refine WL.ap1 ?_
    refine WL.val (Val.moveB rfl) rfl ?_
    refine WL.ap1 ?_
    refine WL.gF rfl rfl rfl rfl ?_
    refine WL.ap1 ?_
    refine WL.gF rfl rfl rfl rfl ?_
    refine WL.ap1 ?_
    refine WL.gF rfl rfl rfl rfl ?_
    refine WL.ap1 ?_
    refine WL.gF rfl rfl rfl rfl ?_
    refine WL.ap1 ?_
    refine WL.gF rfl rfl rfl rfl ?_
    refine WL.ap1 ?_
    refine WL.val (Val.pick rfl) rfl ?_
    refine WL.ap1 ?_
    refine WL.val (Val.moveB rfl) rfl ?_
    refine WL.ap1 ?_
    refine WL.gF rfl rfl rfl rfl ?_
    refine WL.ap1 ?_
    refine WL.gF rfl rfl rfl rfl ?_
    refine WL.ap1 ?_
    refine WL.gF rfl rfl rfl rfl ?_
    refine WL.ap1 ?_
    refine WL.gF rfl rfl rfl rfl ?_
    refine WL.ap1 ?_
    refine WL.gF rfl rfl rfl rfl ?_
    refine WL.ap1 ?_
    refine WL.val (Val.pick rfl) rfl ?_
    refine WL.ap1 ?_
    refine WL.val (Val.moveB rfl) rfl ?_
    refine WL.ap1 ?_
    refine WL.gF rfl rfl rfl rfl ?_
    refine WL.ap1 ?_
    refine WL.gF rfl rfl rfl rfl ?_
    refine WL.ap1 ?_
    refine WL.gF rfl rfl rfl rfl ?_
    refine WL.ap1 ?_
    refine WL.gF rfl rfl rfl rfl ?_
    refine WL.ap0 ?_
    refine WL.gF rfl rfl rfl rfl ?_
    refine WL.val (Val.pick rfl) rfl ?_
    refine WL.val (Val.moveB rfl) rfl ?_
    refine WL.gF rfl rfl rfl rfl ?_
    refine WL.gF rfl rfl rfl rfl ?_
    refine WL.gF rfl rfl rfl rfl ?_
    refine WL.gF rfl rfl rfl rfl ?_
    refine WL.gF rfl rfl rfl rfl ?_
    refine WL.val (Val.pick rfl) rfl ?_
    refine WL.val (Val.moveB rfl) rfl ?_
    refine WL.gF rfl rfl rfl rfl ?_
    refine WL.gF rfl rfl rfl rfl ?_
    refine WL.gF rfl rfl rfl rfl ?_
    refine WL.gF rfl rfl rfl rfl ?_
    refine WL.gF rfl rfl rfl rfl ?_
    refine WL.val (Val.pick rfl) rfl ?_
    refine WL.val (Val.moveB rfl) rfl ?_
    refine WL.gF rfl rfl rfl rfl ?_
    refine WL.gF rfl rfl rfl rfl ?_
    refine WL.gF rfl rfl rfl rfl ?_
    refine WL.gF rfl rfl rfl rfl ?_
    refine WL.gF rfl rfl rfl rfl ?_
    refine WL.val (Val.pick rfl) rfl ?_
    refine WL.val (Val.moveB rfl) rfl ?_
    refine WL.gF rfl rfl rfl rfl ?_
    refine WL.gF rfl rfl rfl rfl ?_
    refine WL.gF rfl rfl rfl rfl ?_
    refine WL.gF rfl rfl rfl rfl ?_
    refine WL.gF rfl rfl rfl rfl ?_
    refine WL.val (Val.pick rfl) rfl ?_
    refine WL.val (Val.moveB rfl) rfl ?_
    refine WL.gF rfl rfl rfl rfl ?_
    refine WL.gF rfl rfl rfl rfl ?_
    refine WL.gF rfl rfl rfl rfl ?_
    refine WL.gF rfl rfl rfl rfl ?_
    refine WL.gF rfl rfl rfl rfl ?_
    refine WL.val (Val.pick rfl) rfl ?_
    refine WL.val (Val.assignB rfl) rfl ?_
    refine WL.nil ?_
    refine WX.thenC ?_
    refine WC.ret ?_
    apply WX.doneP (ks := [])
    case hres => exact RunRes.r1 rfl (ResIs.tmpB rfl)
    case hI => first | exact Mem.le.refl _ | assumption
    exact ⟨rfl, rfl, EqP.f fun e => h (by subst e; rfl)⟩
  · skip
    refine WL.ap1 ?_
    refine WL.val (Val.moveB rfl) rfl ?_
    refine WL.ap1 ?_
    refine WL.gF rfl rfl rfl rfl ?_
    refine WL.ap1 ?_
    refine WL.gF rfl rfl rfl rfl ?_
    refine WL.ap1 ?_
    refine WL.gF rfl rfl rfl rfl ?_
    refine WL.ap1 ?_
    refine WL.gF rfl rfl rfl rfl ?_
    refine WL.ap1 ?_
    refine WL.gF rfl rfl rfl rfl ?_
    refine WL.ap1 ?_
    refine WL.val (Val.pick rfl) rfl ?_
    refine WL.ap1 ?_
    refine WL.val (Val.moveB rfl) rfl ?_
    refine WL.ap1 ?_
    refine WL.gF rfl rfl rfl rfl ?_
    refine WL.ap1 ?_
    refine WL.gF rfl rfl rfl rfl ?_
    refine WL.ap1 ?_
    refine WL.gF rfl rfl rfl rfl ?_
    refine WL.ap1 ?_
    refine WL.gF rfl rfl rfl rfl ?_
    refine WL.ap1 ?_
    refine WL.gF rfl rfl rfl rfl ?_
    refine WL.ap1 ?_
    refine WL.val (Val.pick rfl) rfl ?_
    refine WL.ap1 ?_
    refine WL.val (Val.moveB rfl) rfl ?_
    refine WL.ap1 ?_
    refine WL.gF rfl rfl rfl rfl ?_
    refine WL.ap1 ?_
    refine WL.gF rfl rfl rfl rfl ?_
    refine WL.ap1 ?_
    refine WL.gF rfl rfl rfl rfl ?_
    refine WL.ap1 ?_
    refine WL.gF rfl rfl rfl rfl ?_
    refine WL.ap1 ?_
    refine WL.gF rfl rfl rfl rfl ?_
    refine WL.ap1 ?_
    refine WL.val (Val.pick rfl) rfl ?_
    refine WL.ap1 ?_
    refine WL.val (Val.moveB rfl) rfl ?_
    refine WL.ap1 ?_
    refine WL.gF rfl rfl rfl rfl ?_
    refine WL.ap1 ?_
    refine WL.gF rfl rfl rfl rfl ?_
    refine WL.ap1 ?_
    refine WL.gF rfl rfl rfl rfl ?_
    refine WL.ap1 ?_
    refine WL.gF rfl rfl rfl rfl ?_
    refine WL.ap1 ?_
    refine WL.gF rfl rfl rfl rfl ?_
    refine WL.ap1 ?_
    refine WL.val (Val.pick rfl) rfl ?_
    refine WL.ap1 ?_
    refine WL.val (Val.moveB rfl) rfl ?_
    refine WL.ap1 ?_
    refine WL.gF rfl rfl rfl rfl ?_
    refine WL.ap1 ?_
    refine WL.gF rfl rfl rfl rfl ?_
    refine WL.ap1 ?_
    refine WL.gF rfl rfl rfl rfl ?_
    refine WL.ap1 ?_
    refine WL.gF rfl rfl rfl rfl ?_
    refine WL.ap0 ?_
    refine WL.gF rfl rfl rfl rfl ?_
    refine WL.val (Val.pick rfl) rfl ?_
    refine WL.val (Val.moveB rfl) rfl ?_
    refine WL.gF rfl rfl rfl rfl ?_
    refine WL.gF rfl rfl rfl rfl ?_
    refine WL.gF rfl rfl rfl rfl ?_
    refine WL.gF rfl rfl rfl rfl ?_
    refine WL.gF rfl rfl rfl rfl ?_
    refine WL.val (Val.pick rfl) rfl ?_
    refine WL.val (Val.moveB rfl) rfl ?_
    refine WL.gF rfl rfl rfl rfl ?_
    refine WL.gF rfl rfl rfl rfl ?_
    refine WL.gF rfl rfl rfl rfl ?_
    refine WL.gF rfl rfl rfl rfl ?_
    refine WL.gF rfl rfl rfl rfl ?_
    refine WL.val (Val.pick rfl) rfl ?_
    refine WL.val (Val.moveB rfl) rfl ?_
    refine WL.gF rfl rfl rfl rfl ?_
    refine WL.gF rfl rfl rfl rfl ?_
    refine WL.gF rfl rfl rfl rfl ?_
    refine WL.gF rfl rfl rfl rfl ?_
    refine WL.gF rfl rfl rfl rfl ?_
    refine WL.val (Val.pick rfl) rfl ?_
    refine WL.val (Val.moveB rfl) rfl ?_
    refine WL.gF rfl rfl rfl rfl ?_
    refine WL.gF rfl rfl rfl rfl ?_
    refine WL.gF rfl rfl rfl rfl ?_
    refine WL.gF rfl rfl rfl rfl ?_
    refine WL.gF rfl rfl rfl rfl ?_
    refine WL.val (Val.pick rfl) rfl ?_
    refine WL.val (Val.moveB rfl) rfl ?_
    refine WL.gF rfl rfl rfl rfl ?_
    refine WL.gF rfl rfl rfl rfl ?_
    refine WL.gF rfl rfl rfl rfl ?_
    refine WL.gF rfl rfl rfl rfl ?_
    refine WL.gF rfl rfl rfl rfl ?_
    refine WL.val (Val.pick rfl) rfl ?_
    refine WL.val (Val.assignB rfl) rfl ?_
    refine WL.nil ?_
    refine WX.thenC ?_
    refine WC.ret ?_
    apply WX.doneP (ks := [])
    case hres => exact RunRes.r1 rfl (ResIs.tmpB rfl)
    case hI => first | exact Mem.le.refl _ | assumption
    exact ⟨rfl, rfl, EqP.f fun e => h (by subst e; rfl)⟩
theorem bytesEq (a b : Bs) (v u : Value) (I : Mem) (hv : Byt I v a) (hu : Byt I u b) :
    Ctr Tryd.prog 49 [v, u] I [] (Still I (EqP (a = b))) := by
  refine Ctr.intro Tryd.func49 rfl rfl rfl fun E F => ?_
  refine WC.seq ?_
  refine WC.region ?_
  refine WL.val (Val.assignB rfl) rfl ?_
  refine WL.nil ?_
  refine WX.thenC ?_
  refine WC.seq ?_
  refine WC.region ?_
  refine WL.val Val.move rfl ?_
  refine WL.val (Val.str rfl hv) rfl ?_
  refine WL.val Val.move rfl ?_
  refine WL.val (Val.str rfl hu) rfl ?_
  refine WL.eqStr rfl rfl rfl (fun h => ?_) (fun h => ?_)
  refine WL.val (Val.assignB rfl) rfl ?_
  refine WL.nil ?_
  refine WX.thenC ?_
  refine WC.ret ?_
  · skip
    apply WX.doneP (ks := [])
    case hres => exact RunRes.r1 rfl (ResIs.tmpB rfl)
    case hI => first | exact Mem.le.refl _ | assumption
    exact ⟨rfl, rfl, EqP.t h⟩
  · skip
    refine WL.val (Val.assignB rfl) rfl ?_
    refine WL.nil ?_
    refine WX.thenC ?_
    refine WC.ret ?_
    apply WX.doneP (ks := [])
    case hres => exact RunRes.r1 rfl (ResIs.tmpB rfl)
    case hI => first | exact Mem.le.refl _ | assumption
    exact ⟨rfl, rfl, EqP.f h⟩
end Go.Proofs.YtfdeckdongonnaaDoor
