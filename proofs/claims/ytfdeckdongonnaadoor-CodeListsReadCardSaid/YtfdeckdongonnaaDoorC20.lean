/-
  Code, the walks: encode, and what it is handed.
-/
import Derived.Test.YtfdeckdongonnaaDoorC19
namespace Go.Proofs.YtfdeckdongonnaaDoor
open Go.Sl Go.Cd
set_option maxRecDepth 100000
set_option maxHeartbeats 4000000
set_option linter.unusedVariables false
attribute [local irreducible] WC WL WX WK WA WAK Val Ctr RunRes ResIs Rd At sl box pt Exit.then Exit.inBlock bodyPost Code.wp wpList
theorem cmdfn_ctr (o g : Nat) (c : Cm) (e t u d q : Value) (sv : Value) (bad : Bool) (bs : Bs) (I : Mem) (hN : NeedAt I) (hc : c.at_ I e t u d q) (hA : At I g 0 (c.cs e t u d q)) (hl : (bs ++ c.w).length ≤ 1099511627776) :
    Ctr Tryd.prog 40 [ptr o, ptr g] I (outL o sv bad bs) (WrP o c.w (bad || !c.wok) bs) := by
  refine Ctr.intro Tryd.func40 rfl rfl rfl fun E F => ?_
  refine WC.region ?_
  refine WL.val (Val.moveP rfl) rfl ?_
  refine WL.val (Val.loadI rfl (by assumption) rfl) rfl ?_
  refine WL.callP [1, 1] rfl rfl (ocommand_ctr o c e t u d q sv bad bs _ hN hc hl) rfl ?_
  rintro _ I1 _ hI1 ⟨sv1, rfl⟩
  refine WL.nApp ?_
  refine WL.nil ?_
  apply WX.doneN (ks := [0, 0])
  case hres => exact RunRes.r0 rfl
  case hp => rfl
  case hI => first | exact Mem.le.refl _ | assumption
  exact ⟨sv1, rfl⟩
theorem entfn_ctr (o g : Nat) (l : List Ent) (v : Value) (sv : Value) (bad : Bool) (bs : Bs) (I : Mem) (hN : NeedAt I) (hv : LsAt Ent.rep I l v) (hA : At I g 0 [v]) (hl : (bs ++ lw Ent.w l).length ≤ 1099511627776) :
    Ctr Tryd.prog 46 [ptr o, ptr g] I (outL o sv bad bs) (WrP o (lw Ent.w l) (bad || !entsWok l) bs) := by
  refine Ctr.intro Tryd.func46 rfl rfl rfl fun E F => ?_
  refine WC.region ?_
  refine WL.val (Val.moveP rfl) rfl ?_
  refine WL.val (Val.loadS rfl (Rd.imm (by assumption))) rfl ?_
  refine WL.callP [1, 1] rfl rfl (oentries_ctr o l v sv bad bs _ hN hv hl) rfl ?_
  rintro _ I1 _ hI1 ⟨sv1, rfl⟩
  refine WL.nApp ?_
  refine WL.nil ?_
  apply WX.doneN (ks := [0, 0])
  case hres => exact RunRes.r0 rfl
  case hp => rfl
  case hI => first | exact Mem.le.refl _ | assumption
  exact ⟨sv1, rfl⟩
end Go.Proofs.YtfdeckdongonnaaDoor
