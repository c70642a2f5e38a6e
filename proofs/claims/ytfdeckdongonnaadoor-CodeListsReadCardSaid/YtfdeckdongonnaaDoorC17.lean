/-
  Code, the walks: writing attributes, entries.
-/
import Derived.Test.YtfdeckdongonnaaDoorC16
namespace Go.Cd
open Go.Sl
def pathWok (l : List Sg) : Bool := !decide (4096 < (l.length : Int)) && l.all Sg.wok
def Atr.wok (a : Atr) : Bool := a.sty.wok && pathWok a.path
end Go.Cd
namespace Go.Proofs.YtfdeckdongonnaaDoor
open Go.Sl Go.Cd
set_option maxRecDepth 100000
set_option maxHeartbeats 4000000
set_option linter.unusedVariables false
attribute [local irreducible] WC WL WX WK WA WAK Val Ctr RunRes ResIs Rd At sl box pt Exit.then Exit.inBlock bodyPost Code.wp wpList
theorem oattr_ctr (o : Nat) (x : Atr) (t u d q : Value) (sv : Value) (bad : Bool) (bs : Bs) (I : Mem) (hN : NeedAt I) (hx : x.at_ I t u d q) (hl : (bs ++ x.w).length ≤ 1099511627776) :
    Ctr Tryd.prog 68 [ptr o, .agg (x.cs t u d q).toArray] I (outL o sv bad bs) (WrP o x.w (bad || !x.wok) bs) := by
  obtain ⟨a1, q1, a2, q2, a3, q3, a4, q4, rfl, rfl, rfl, rfl⟩ := hx.sl
  have hw : bs ++ x.w = bs ++ x.mtx.w ++ x.sty.w ++ lw Sg.w x.path := by simp only [Atr.w, List.append_assoc]
  rw [hw] at hl
  have hl0 := hl
  simp only [List.length_append] at hl0
  refine Ctr.intro Tryd.func68 rfl rfl rfl fun E F => ?_
  refine WC.seq ?_
  refine WC.region ?_
  (refine WL.box rfl rfl ?_; intro _)
  refine WL.nApp ?_
  refine WL.nil ?_
  refine WX.thenC ?_
  refine WC.seq ?_
  refine WC.region ?_
  refine WL.val (Val.moveP rfl) rfl ?_
  refine WL.val (Val.fldAddr rfl) rfl ?_
  refine WL.val (Val.loadO 3 rfl rfl rfl) rfl ?_
  refine WL.callP [1, 1] rfl rfl (omatrix_ctr o x.mtx sv bad _ _ hx.mtx (by simp only [List.length_append]; omega)) rfl ?_
  rintro _ I1 _ hI1 ⟨sv1, rfl⟩
  refine WL.nApp ?_
  refine WL.nil ?_
  refine WX.thenC ?_
  refine WC.seq ?_
  refine WC.region ?_
  refine WL.val (Val.moveP rfl) rfl ?_
  refine WL.val (Val.fldAddr rfl) rfl ?_
  refine WL.val (Val.loadO 1 rfl rfl rfl) rfl ?_
  refine WL.callP [2, 2] rfl rfl (ostyle_ctr o x.sty _ _ _ sv1 bad _ _ (hx.sty.mono hI1) (by simp only [List.length_append]; omega)) rfl ?_
  rintro _ I2 _ hI2 ⟨sv2, rfl⟩
  refine WL.nApp ?_
  refine WL.nil ?_
  refine WX.thenC ?_
  refine WC.region ?_
  refine WL.val (Val.moveP rfl) rfl ?_
  refine WL.val (Val.fldAddr rfl) rfl ?_
  refine WL.val (Val.loadS rfl (Rd.own1 1 rfl rfl)) rfl ?_
  refine WL.callP [2, 2] rfl rfl (opath_ctr o x.path _ sv2 _ _ _ ((hN.mono hI1).mono hI2) ((hx.path.mono hI1).mono hI2) hl) rfl ?_
  rintro _ I3 _ hI3 ⟨sv3, rfl⟩
  refine WL.nApp ?_
  refine WL.nil ?_
  have hI : I.le I3 := (hI1.trans hI2).trans hI3
  apply WX.doneN (ks := [1, 1])
  case hres => exact RunRes.r0 rfl
  case hp => rfl
  case hI => first | exact Mem.le.refl _ | assumption
  refine ⟨sv3, ?_⟩
  rw [hw, show (bad || !x.wok) = (bad || !x.sty.wok || decide (4096 < (x.path.length : Int)) || !x.path.all Sg.wok) by
    unfold Atr.wok pathWok
    cases bad <;> cases x.sty.wok <;> cases decide (4096 < (x.path.length : Int)) <;> cases x.path.all Sg.wok <;> rfl]
end Go.Proofs.YtfdeckdongonnaaDoor
