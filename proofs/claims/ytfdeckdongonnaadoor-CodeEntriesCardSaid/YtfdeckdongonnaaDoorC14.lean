/-
  Code, the walks: writing styles.
-/
import Derived.Test.YtfdeckdongonnaaDoorC13
namespace Go.Cd
open Go.Sl
def Sty.wok (s : Sty) : Bool := s.fill.wok && s.pen.wok && decide ((s.dash.length : Int) ≤ 8)
theorem eInts3 (a b c : Int) : eInts [a, b, c] = eInt a ++ eInt b ++ eInt c := by simp [eInts]
end Go.Cd
namespace Go.Proofs.YtfdeckdongonnaaDoor
open Go.Sl Go.Cd
set_option maxRecDepth 100000
set_option maxHeartbeats 4000000
set_option linter.unusedVariables false
attribute [local irreducible] WC WL WX WK WA WAK Val Ctr RunRes ResIs Rd At sl box pt Exit.then Exit.inBlock bodyPost Code.wp wpList
theorem ostyle_ctr (o : Nat) (s : Sty) (t u d : Value) (sv : Value) (bad : Bool) (bs : Bs) (I : Mem) (hs : s.at_ I t u d) (hl : (bs ++ s.w).length ≤ 1099511627776) :
    Ctr Tryd.prog 70 [ptr o, .agg (s.cs t u d).toArray] I (outL o sv bad bs) (WrP o s.w (bad || !s.wok) bs) := by
  obtain ⟨a1, q1, a2, q2, a3, q3, rfl, rfl, rfl⟩ := hs.sl
  have hw : bs ++ s.w = bs ++ s.fill.w ++ s.pen.w ++ eInts [s.rule, s.half, s.cap] ++ eInt s.dash.length ++ eInts s.dash ++ eInts [s.phase, s.opac, s.mode] := by
    simp only [Sty.w, lw, eInts3, List.append_assoc]
    rfl
  rw [hw] at hl
  simp only [List.length_append] at hl
  have hdl := eInts_len s.dash
  refine Ctr.intro Tryd.func70 rfl rfl rfl fun E F => ?_
  refine WC.seq ?_
  refine WC.region ?_
  (refine WL.box rfl rfl ?_; intro _)
  refine WL.nApp ?_
  refine WL.nil ?_
  refine WX.thenC ?_
  refine WC.seq ?_
  refine WC.region ?_
  refine WL.val (Val.moveP rfl) rfl ?_
  refine WL.val (Val.fldAddr rfl) rfl ?_
  refine WL.val (Val.loadO 3 rfl rfl rfl) rfl ?_
  rename_i g
  refine WL.callP [1, 1] rfl rfl (opaint_ctr o s.fill _ sv bad _ _ hs.fill (by simp only [List.length_append]; omega)) rfl ?_
  rintro _ I1 _ hI1 ⟨sv1, rfl⟩
  refine WL.nApp ?_
  refine WL.nil ?_
  refine WX.thenC ?_
  refine WC.seq ?_
  refine WC.region ?_
  refine WL.val (Val.moveP rfl) rfl ?_
  refine WL.val (Val.fldAddr rfl) rfl ?_
  refine WL.val (Val.loadO 1 rfl rfl rfl) rfl ?_
  refine WL.callP [2, 2] rfl rfl (opaint_ctr o s.pen _ sv1 _ _ _ (hs.pen.mono hI1) (by simp only [List.length_append]; omega)) rfl ?_
  rintro _ I2 _ hI2 ⟨sv2, rfl⟩
  refine WL.nApp ?_
  refine WL.nil ?_
  refine WX.thenC ?_
  refine WC.seq ?_
  refine WC.region ?_
  refine WL.val (Val.moveP rfl) rfl ?_
  refine WL.val (Val.fldAddr rfl) rfl ?_
  refine WL.val (Val.loadS rfl (Rd.own1 1 rfl rfl)) rfl ?_
  refine WL.val (Val.fldAddr rfl) rfl ?_
  refine WL.val (Val.loadS rfl (Rd.own1 1 rfl rfl)) rfl ?_
  refine WL.val (Val.fldAddr rfl) rfl ?_
  refine WL.val (Val.loadS rfl (Rd.own1 1 rfl rfl)) rfl ?_
  (refine WL.buildSlice (by with_unfolding_all exact rfl) rfl (by with_unfolding_all exact rfl) rfl ?_; intro _)
  refine WL.nApp ?_
  rename_i h
  refine WL.freezeBox (xs := [vi s.rule, vi s.half, vi s.cap]) 4 rfl fun I3 hI3 hA3 => ?_
  refine WL.callP [2, 2] rfl rfl (ints_ctr o (.slice (some ⟨h, 0, none⟩) 3 3) [s.rule, s.half, s.cap] sv2 _ _ _ (litInts _ hA3 ⟨hs.rule, hs.half, hs.cap, trivial⟩) (by simp only [List.length_append]; omega)) rfl ?_
  rintro _ I4 _ hI4 ⟨sv4, rfl⟩
  refine WL.nApp ?_
  refine WL.nil ?_
  refine WX.thenC ?_
  refine WC.seq ?_
  refine WC.region ?_
  refine WL.val (Val.moveP rfl) rfl ?_
  refine WL.val (Val.fldAddr rfl) rfl ?_
  refine WL.val (Val.fldAddr rfl) rfl ?_
  refine WL.val (Val.loadS rfl (Rd.own1 1 rfl rfl)) rfl ?_
  refine WL.val (Val.len rfl) rfl ?_
  refine WL.callP [2, 2] rfl rfl (ocount_ctr o s.dash.length 8 sv4 _ _ _ ⟨by omega, by omega⟩ (by simp only [List.length_append]; omega)) rfl ?_
  rintro _ I5 _ hI5 ⟨sv5, rfl⟩
  refine WL.nApp ?_
  refine WL.nil ?_
  refine WX.thenC ?_
  refine WC.seq ?_
  refine WC.region ?_
  refine WL.val (Val.moveP rfl) rfl ?_
  refine WL.val (Val.fldAddr rfl) rfl ?_
  refine WL.val (Val.fldAddr rfl) rfl ?_
  refine WL.val (Val.loadS rfl (Rd.own1 1 rfl rfl)) rfl ?_
  refine WL.callP [2, 2] rfl rfl (ints_ctr o _ s.dash sv5 _ _ _ (((((hs.dash.mono hI1).mono hI2).mono hI3).mono hI4).mono hI5) (by simp only [List.length_append]; omega)) rfl ?_
  rintro _ I6 _ hI6 ⟨sv6, rfl⟩
  refine WL.nApp ?_
  refine WL.nil ?_
  refine WX.thenC ?_
  refine WC.region ?_
  refine WL.val (Val.moveP rfl) rfl ?_
  refine WL.val (Val.fldAddr rfl) rfl ?_
  refine WL.val (Val.fldAddr rfl) rfl ?_
  refine WL.val (Val.loadS rfl (Rd.own1 1 rfl rfl)) rfl ?_
  refine WL.val (Val.fldAddr rfl) rfl ?_
  refine WL.val (Val.loadS rfl (Rd.own1 1 rfl rfl)) rfl ?_
  refine WL.val (Val.fldAddr rfl) rfl ?_
  refine WL.val (Val.loadS rfl (Rd.own1 1 rfl rfl)) rfl ?_
  (refine WL.buildSlice (by with_unfolding_all exact rfl) rfl (by with_unfolding_all exact rfl) rfl ?_; intro _)
  refine WL.nApp ?_
  rename_i h2
  refine WL.freezeBox (xs := [vi s.phase, vi s.opac, vi s.mode]) 4 rfl fun I7 hI7 hA7 => ?_
  refine WL.callP [2, 2] rfl rfl (ints_ctr o (.slice (some ⟨h2, 0, none⟩) 3 3) [s.phase, s.opac, s.mode] sv6 _ _ _ (litInts _ hA7 ⟨hs.phase, hs.opac, hs.mode, trivial⟩) (by simp only [List.length_append]; omega)) rfl ?_
  rintro _ I8 _ hI8 ⟨sv8, rfl⟩
  refine WL.nApp ?_
  refine WL.nil ?_
  have hI : I.le I8 := ((((((hI1.trans hI2).trans hI3).trans hI4).trans hI5).trans hI6).trans hI7).trans hI8
  apply WX.doneN (ks := [1, 1])
  case hres => exact RunRes.r0 rfl
  case hp => rfl
  case hI => first | exact Mem.le.refl _ | assumption
  refine ⟨sv8, ?_⟩
  have h3 : (bad || !s.wok) = (bad || !s.fill.wok || !s.pen.wok || decide (8 < (s.dash.length : Int))) := by
    have : decide (8 < (s.dash.length : Int)) = !decide ((s.dash.length : Int) ≤ 8) := by rw [← decide_not]; exact decide_eq_decide.2 (by omega)
    rw [this, Sty.wok]
    cases bad <;> cases s.fill.wok <;> cases s.pen.wok <;> cases decide ((s.dash.length : Int) ≤ 8) <;> rfl
  rw [hw, h3]
end Go.Proofs.YtfdeckdongonnaaDoor
