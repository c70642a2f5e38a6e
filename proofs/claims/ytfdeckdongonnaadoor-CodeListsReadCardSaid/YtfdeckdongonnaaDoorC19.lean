/-
  Code, the walks: writing commands.
-/
import Derived.Test.YtfdeckdongonnaaDoorC18
namespace Go.Cd
open Go.Sl
def Cm.wok (c : Cm) : Bool :=
  if c.kind = 1 then entsWok c.ents else if c.kind = 2 then true else if c.kind = 3 then true else if c.kind = 4 then c.atr.wok else if c.kind = 5 then true else if c.kind = 6 then true else if c.kind = 7 then c.atr.sty.wok else if c.kind = 8 then pathWok c.atr.path else if c.kind = 9 then c.seg.wok else if c.kind = 10 then true else if c.kind = 11 then true else if c.kind = 12 then true else false
end Go.Cd
namespace Go.Proofs.YtfdeckdongonnaaDoor
open Go.Sl Go.Cd
set_option maxRecDepth 100000
set_option maxHeartbeats 8000000
set_option linter.unusedVariables false
attribute [local irreducible] WC WL WX WK WA WAK Val Ctr RunRes ResIs Rd At sl box pt Exit.then Exit.inBlock bodyPost Code.wp wpList
theorem ocommand_ctr (o : Nat) (c : Cm) (e t u d q : Value) (sv : Value) (bad : Bool) (bs : Bs) (I : Mem) (hN : NeedAt I) (hc : c.at_ I e t u d q) (hl : (bs ++ c.w).length ≤ 1099511627776) :
    Ctr Tryd.prog 41 [ptr o, .agg (c.cs e t u d q).toArray] I (outL o sv bad bs) (WrP o c.w (bad || !c.wok) bs) := by
  obtain ⟨a0, q0, a1, q1, a2, q2, a3, q3, a4, q4, rfl, rfl, rfl, rfl, rfl⟩ := hc.sl
  refine Ctr.intro Tryd.func41 rfl rfl rfl fun E F => ?_
  refine WC.seq ?_
  refine WC.region ?_
  (refine WL.box rfl rfl ?_; intro _)
  refine WL.nApp ?_
  refine WL.nil ?_
  refine WX.thenC ?_
  refine WC.seq ?_
  rename_i g
  refine WC.conv (fun w h => h.sub [0, 0, 0, 0] rfl) ?_
  refine WC.drawK 999 I [3] rfl (by kernel_rfl) rfl rfl ?_
  refine WA.take 0 rfl (by kernel_rfl) rfl (fun w h => (h.sub [3] rfl)) (Val.moveP rfl) rfl ?_
  refine WA.take 1 rfl (by kernel_rfl) rfl (fun w h => (h.sub [3] rfl)) (Val.nilCheckP rfl) rfl ?_
  refine WA.take 2 rfl (by kernel_rfl) rfl (fun w h => (h.sub [3] rfl)) (Val.fldAddr rfl) rfl ?_
  refine WA.take 3 rfl (by kernel_rfl) rfl (fun w h => (h.sub [3] rfl)) (Val.fldAddr rfl) rfl ?_
  refine WA.take 4 rfl (by kernel_rfl) rfl (fun w h => (h.sub [3] rfl)) (Val.loadS rfl (Rd.own1 0 rfl rfl)) rfl ?_
  refine WA.eff1 (i := 5) (by kernel_rfl) rfl rfl ?_
  refine WL.callP [1, 1] rfl rfl (outInt o 116 sv [.bool bad] bs c.kind _ hc.kind (by simp at hl; omega)) rfl ?_
  rintro _ I0 _ - ⟨rfl, rfl, sv1, rfl⟩
  refine WL.conv (fun w h => h.sub [0, 1, 1, 0] rfl) ?_
  refine WL.nil ?_
  refine WK.anyStep (fun w h => (h.sub [3] rfl)) ?_
  refine WA.done (by kernel_rfl) ?_
  by_cases k1 : c.kind = 1
  · have hw : bs ++ c.w = bs ++ eInt c.kind ++ eInts [c.parent, c.index] ++ lw Ent.w c.ents := by simp [Cm.w, Cm.tail, k1, eInts]
    have hok : c.wok = entsWok c.ents := by simp [Cm.wok, k1]
    rw [hw] at hl
    have hl0 := hl
    simp only [List.length_append] at hl0
    refine WX.thenC ?_
    refine WC.seq ?_
    refine WC.region ?_
    refine WL.val (Val.fldAddr rfl) rfl ?_
    refine WL.val (Val.loadS rfl (Rd.own1 3 rfl rfl)) rfl ?_
    refine WL.nil ?_
    refine WX.thenC ?_
    refine WC.block ?_
    refine WC.seq ?_
    refine WC.region ?_
    refine WL.val (Val.eql rfl rfl (beq_iff_eq.2 (by omega))) rfl ?_
    refine WL.val (Val.assignB rfl) rfl ?_
    refine WL.nil ?_
    refine WX.thenC ?_
    refine WC.condT rfl ?_
    refine WC.seq ?_
    refine WC.region ?_
    refine WL.val (Val.moveP rfl) rfl ?_
    refine WL.val (Val.fldAddr rfl) rfl ?_
    refine WL.val (Val.loadS rfl (Rd.own1 3 rfl rfl)) rfl ?_
    refine WL.val (Val.fldAddr rfl) rfl ?_
    refine WL.val (Val.loadS rfl (Rd.own1 3 rfl rfl)) rfl ?_
    (refine WL.buildSlice (by with_unfolding_all exact rfl) rfl (by with_unfolding_all exact rfl) rfl ?_; intro _)
    refine WL.nApp ?_
    rename_i h
    refine WL.freezeBox (xs := [vi c.parent, vi c.index]) 4 rfl fun I2 hI2 hA2 => ?_
    refine WL.callP [1, 1] rfl rfl (ints_ctr o (.slice (some ⟨h, 0, none⟩) 2 2) [c.parent, c.index] sv1 bad _ _ (litInts _ hA2 ⟨hc.parent, hc.index, trivial⟩) (by simp only [List.length_append]; omega)) rfl ?_
    rintro _ I3 _ hI3 ⟨sv2, rfl⟩
    refine WL.nApp ?_
    refine WL.nil ?_
    refine WX.thenC ?_
    refine WC.region ?_
    refine WL.val (Val.moveP rfl) rfl ?_
    refine WL.val (Val.fldAddr rfl) rfl ?_
    refine WL.val (Val.loadS rfl (Rd.own1 1 rfl rfl)) rfl ?_
    refine WL.callP [2, 2] rfl rfl (oentries_ctr o c.ents _ sv2 bad _ _ ((hN.mono hI2).mono hI3) ((hc.ents.mono hI2).mono hI3) hl) rfl ?_
    rintro _ I9 _ hI9 ⟨sv9, rfl⟩
    refine WL.nApp ?_
    refine WL.nil ?_
    refine WX.inNormal ?_
    have hI := ((hI2.trans hI3).trans hI9)
    apply WX.doneN (ks := [1, 1])
    case hres => exact RunRes.r0 rfl
    case hp => rfl
    case hI => first | exact Mem.le.refl _ | assumption
    refine ⟨sv9, ?_⟩
    rw [hw, hok]
  by_cases k2 : c.kind = 2
  · have hw : bs ++ c.w = bs ++ eInt c.kind ++ eInt c.id := by simp [Cm.w, Cm.tail, k2, eInts]
    have hok : c.wok = true := by simp [Cm.wok, k2]
    rw [hw] at hl
    have hl0 := hl
    simp only [List.length_append] at hl0
    refine WX.thenC ?_
    refine WC.seq ?_
    refine WC.region ?_
    refine WL.val (Val.fldAddr rfl) rfl ?_
    refine WL.val (Val.loadS rfl (Rd.own1 3 rfl rfl)) rfl ?_
    refine WL.nil ?_
    refine WX.thenC ?_
    refine WC.block ?_
    refine WC.seq ?_
    refine WC.region ?_
    refine WL.val (Val.eql rfl rfl (beq_eq_false_iff_ne.2 (by omega))) rfl ?_
    refine WL.val (Val.assignB rfl) rfl ?_
    refine WL.nil ?_
    refine WX.thenC ?_
    refine WC.condF rfl ?_
    refine WC.seq ?_
    refine WC.seq ?_
    refine WC.region ?_
    refine WL.val (Val.eql rfl rfl (beq_iff_eq.2 (by omega))) rfl ?_
    refine WL.val (Val.assignB rfl) rfl ?_
    refine WL.nil ?_
    refine WX.thenC ?_
    refine WC.condT rfl ?_
    refine WC.skip ?_
    refine WX.thenC ?_
    refine WC.condT rfl ?_
    refine WC.drawK 999 I0 [3] rfl (by kernel_rfl) rfl rfl ?_
    refine WA.take 0 rfl (by kernel_rfl) rfl (fun w h => (h.sub [3] rfl)) (Val.moveP rfl) rfl ?_
    refine WA.take 1 rfl (by kernel_rfl) rfl (fun w h => (h.sub [3] rfl)) (Val.nilCheckP rfl) rfl ?_
    refine WA.take 2 rfl (by kernel_rfl) rfl (fun w h => (h.sub [3] rfl)) (Val.fldAddr rfl) rfl ?_
    refine WA.take 3 rfl (by kernel_rfl) rfl (fun w h => (h.sub [3] rfl)) (Val.fldAddr rfl) rfl ?_
    refine WA.take 4 rfl (by kernel_rfl) rfl (fun w h => (h.sub [3] rfl)) (Val.loadS rfl (Rd.own1 0 rfl rfl)) rfl ?_
    refine WA.eff1 (i := 5) (by kernel_rfl) rfl rfl ?_
    refine WL.callP [1, 1] rfl rfl (outInt o 116 sv1 [.bool bad] _ c.id _ hc.id (by simp only [List.length_append]; omega)) rfl ?_
    rintro _ _ _ - ⟨rfl, rfl, sv2, rfl⟩
    refine WL.conv (fun w h => h.sub [0, 1, 1, 0] rfl) ?_
    refine WL.nil ?_
    refine WK.anyStep (fun w h => (h.sub [3] rfl)) ?_
    refine WA.done (by kernel_rfl) ?_
    refine WX.inNormal ?_
    apply WX.doneN (ks := [0, 0])
    case hres => exact RunRes.r0 rfl
    case hp => rfl
    case hI => first | exact Mem.le.refl _ | assumption
    refine ⟨sv2, ?_⟩
    rw [hw, hok]
    rw [Bool.not_true, Bool.or_false]
  by_cases k3 : c.kind = 3
  · have hw : bs ++ c.w = bs ++ eInt c.kind ++ eInts [c.id, c.parent, c.index] := by simp [Cm.w, Cm.tail, k3, eInts]
    have hok : c.wok = true := by simp [Cm.wok, k3]
    rw [hw] at hl
    have hl0 := hl
    simp only [List.length_append] at hl0
    refine WX.thenC ?_
    refine WC.seq ?_
    refine WC.region ?_
    refine WL.val (Val.fldAddr rfl) rfl ?_
    refine WL.val (Val.loadS rfl (Rd.own1 3 rfl rfl)) rfl ?_
    refine WL.nil ?_
    refine WX.thenC ?_
    refine WC.block ?_
    refine WC.seq ?_
    refine WC.region ?_
    refine WL.val (Val.eql rfl rfl (beq_eq_false_iff_ne.2 (by omega))) rfl ?_
    refine WL.val (Val.assignB rfl) rfl ?_
    refine WL.nil ?_
    refine WX.thenC ?_
    refine WC.condF rfl ?_
    refine WC.seq ?_
    refine WC.seq ?_
    refine WC.region ?_
    refine WL.val (Val.eql rfl rfl (beq_eq_false_iff_ne.2 (by omega))) rfl ?_
    refine WL.val (Val.assignB rfl) rfl ?_
    refine WL.nil ?_
    refine WX.thenC ?_
    refine WC.condF rfl ?_
    refine WC.region ?_
    refine WL.val (Val.eql rfl rfl (beq_eq_false_iff_ne.2 (by omega))) rfl ?_
    refine WL.val (Val.assignB rfl) rfl ?_
    refine WL.nil ?_
    refine WX.thenC ?_
    refine WC.condF rfl ?_
    refine WC.seq ?_
    refine WC.region ?_
    refine WL.val (Val.eql rfl rfl (beq_iff_eq.2 (by omega))) rfl ?_
    refine WL.val (Val.assignB rfl) rfl ?_
    refine WL.nil ?_
    refine WX.thenC ?_
    refine WC.condT rfl ?_
    refine WC.region ?_
    refine WL.val (Val.moveP rfl) rfl ?_
    refine WL.val (Val.fldAddr rfl) rfl ?_
    refine WL.val (Val.loadS rfl (Rd.own1 3 rfl rfl)) rfl ?_
    refine WL.val (Val.fldAddr rfl) rfl ?_
    refine WL.val (Val.loadS rfl (Rd.own1 3 rfl rfl)) rfl ?_
    refine WL.val (Val.fldAddr rfl) rfl ?_
    refine WL.val (Val.loadS rfl (Rd.own1 3 rfl rfl)) rfl ?_
    (refine WL.buildSlice (by with_unfolding_all exact rfl) rfl (by with_unfolding_all exact rfl) rfl ?_; intro _)
    refine WL.nApp ?_
    rename_i h
    refine WL.freezeBox (xs := [vi c.id, vi c.parent, vi c.index]) 4 rfl fun I2 hI2 hA2 => ?_
    refine WL.callP [1, 1] rfl rfl (ints_ctr o (.slice (some ⟨h, 0, none⟩) 3 3) [c.id, c.parent, c.index] sv1 bad _ _ (litInts _ hA2 ⟨hc.id, hc.parent, hc.index, trivial⟩) (by simp only [List.length_append]; omega)) rfl ?_
    rintro _ I3 _ hI3 ⟨sv2, rfl⟩
    refine WL.nApp ?_
    refine WL.nil ?_
    refine WX.inNormal ?_
    have hI := (hI2.trans hI3)
    apply WX.doneN (ks := [1, 1])
    case hres => exact RunRes.r0 rfl
    case hp => rfl
    case hI => first | exact Mem.le.refl _ | assumption
    refine ⟨sv2, ?_⟩
    rw [hw, hok]
    rw [Bool.not_true, Bool.or_false]
  by_cases k4 : c.kind = 4
  · have hw : bs ++ c.w = bs ++ eInt c.kind ++ eInts [c.id, c.parent, c.index, c.count] ++ c.atr.w := by simp [Cm.w, Cm.tail, k4, eInts]
    have hok : c.wok = c.atr.wok := by simp [Cm.wok, k4]
    rw [hw] at hl
    have hl0 := hl
    simp only [List.length_append] at hl0
    refine WX.thenC ?_
    refine WC.seq ?_
    refine WC.region ?_
    refine WL.val (Val.fldAddr rfl) rfl ?_
    refine WL.val (Val.loadS rfl (Rd.own1 3 rfl rfl)) rfl ?_
    refine WL.nil ?_
    refine WX.thenC ?_
    refine WC.block ?_
    refine WC.seq ?_
    refine WC.region ?_
    refine WL.val (Val.eql rfl rfl (beq_eq_false_iff_ne.2 (by omega))) rfl ?_
    refine WL.val (Val.assignB rfl) rfl ?_
    refine WL.nil ?_
    refine WX.thenC ?_
    refine WC.condF rfl ?_
    refine WC.seq ?_
    refine WC.seq ?_
    refine WC.region ?_
    refine WL.val (Val.eql rfl rfl (beq_eq_false_iff_ne.2 (by omega))) rfl ?_
    refine WL.val (Val.assignB rfl) rfl ?_
    refine WL.nil ?_
    refine WX.thenC ?_
    refine WC.condF rfl ?_
    refine WC.region ?_
    refine WL.val (Val.eql rfl rfl (beq_eq_false_iff_ne.2 (by omega))) rfl ?_
    refine WL.val (Val.assignB rfl) rfl ?_
    refine WL.nil ?_
    refine WX.thenC ?_
    refine WC.condF rfl ?_
    refine WC.seq ?_
    refine WC.region ?_
    refine WL.val (Val.eql rfl rfl (beq_eq_false_iff_ne.2 (by omega))) rfl ?_
    refine WL.val (Val.assignB rfl) rfl ?_
    refine WL.nil ?_
    refine WX.thenC ?_
    refine WC.condF rfl ?_
    refine WC.seq ?_
    refine WC.region ?_
    refine WL.val (Val.eql rfl rfl (beq_iff_eq.2 (by omega))) rfl ?_
    refine WL.val (Val.assignB rfl) rfl ?_
    refine WL.nil ?_
    refine WX.thenC ?_
    refine WC.condT rfl ?_
    refine WC.seq ?_
    refine WC.region ?_
    refine WL.val (Val.moveP rfl) rfl ?_
    refine WL.val (Val.fldAddr rfl) rfl ?_
    refine WL.val (Val.loadS rfl (Rd.own1 3 rfl rfl)) rfl ?_
    refine WL.val (Val.fldAddr rfl) rfl ?_
    refine WL.val (Val.loadS rfl (Rd.own1 3 rfl rfl)) rfl ?_
    refine WL.val (Val.fldAddr rfl) rfl ?_
    refine WL.val (Val.loadS rfl (Rd.own1 3 rfl rfl)) rfl ?_
    refine WL.val (Val.fldAddr rfl) rfl ?_
    refine WL.val (Val.loadS rfl (Rd.own1 3 rfl rfl)) rfl ?_
    (refine WL.buildSlice (by with_unfolding_all exact rfl) rfl (by with_unfolding_all exact rfl) rfl ?_; intro _)
    refine WL.nApp ?_
    rename_i h
    refine WL.freezeBox (xs := [vi c.id, vi c.parent, vi c.index, vi c.count]) 4 rfl fun I2 hI2 hA2 => ?_
    refine WL.callP [1, 1] rfl rfl (ints_ctr o (.slice (some ⟨h, 0, none⟩) 4 4) [c.id, c.parent, c.index, c.count] sv1 bad _ _ (litInts _ hA2 ⟨hc.id, hc.parent, hc.index, hc.count, trivial⟩) (by simp only [List.length_append]; omega)) rfl ?_
    rintro _ I3 _ hI3 ⟨sv2, rfl⟩
    refine WL.nApp ?_
    refine WL.nil ?_
    refine WX.thenC ?_
    refine WC.region ?_
    refine WL.val (Val.moveP rfl) rfl ?_
    refine WL.val (Val.fldAddr rfl) rfl ?_
    refine WL.val (Val.loadO 1 rfl rfl rfl) rfl ?_
    refine WL.callP [2, 2] rfl rfl (oattr_ctr o c.atr _ _ _ _ sv2 bad _ _ ((hN.mono hI2).mono hI3) ((hc.atr.mono hI2).mono hI3) hl) rfl ?_
    rintro _ I9 _ hI9 ⟨sv9, rfl⟩
    refine WL.nApp ?_
    refine WL.nil ?_
    refine WX.inNormal ?_
    have hI := ((hI2.trans hI3).trans hI9)
    apply WX.doneN (ks := [1, 1])
    case hres => exact RunRes.r0 rfl
    case hp => rfl
    case hI => first | exact Mem.le.refl _ | assumption
    refine ⟨sv9, ?_⟩
    rw [hw, hok]
  by_cases k5 : c.kind = 5
  · have hw : bs ++ c.w = bs ++ eInt c.kind ++ eInt c.id := by simp [Cm.w, Cm.tail, k5, eInts]
    have hok : c.wok = true := by simp [Cm.wok, k5]
    rw [hw] at hl
    have hl0 := hl
    simp only [List.length_append] at hl0
    refine WX.thenC ?_
    refine WC.seq ?_
    refine WC.region ?_
    refine WL.val (Val.fldAddr rfl) rfl ?_
    refine WL.val (Val.loadS rfl (Rd.own1 3 rfl rfl)) rfl ?_
    refine WL.nil ?_
    refine WX.thenC ?_
    refine WC.block ?_
    refine WC.seq ?_
    refine WC.region ?_
    refine WL.val (Val.eql rfl rfl (beq_eq_false_iff_ne.2 (by omega))) rfl ?_
    refine WL.val (Val.assignB rfl) rfl ?_
    refine WL.nil ?_
    refine WX.thenC ?_
    refine WC.condF rfl ?_
    refine WC.seq ?_
    refine WC.seq ?_
    refine WC.region ?_
    refine WL.val (Val.eql rfl rfl (beq_eq_false_iff_ne.2 (by omega))) rfl ?_
    refine WL.val (Val.assignB rfl) rfl ?_
    refine WL.nil ?_
    refine WX.thenC ?_
    refine WC.condF rfl ?_
    refine WC.region ?_
    refine WL.val (Val.eql rfl rfl (beq_iff_eq.2 (by omega))) rfl ?_
    refine WL.val (Val.assignB rfl) rfl ?_
    refine WL.nil ?_
    refine WX.thenC ?_
    refine WC.condT rfl ?_
    refine WC.drawK 999 I0 [3] rfl (by kernel_rfl) rfl rfl ?_
    refine WA.take 0 rfl (by kernel_rfl) rfl (fun w h => (h.sub [3] rfl)) (Val.moveP rfl) rfl ?_
    refine WA.take 1 rfl (by kernel_rfl) rfl (fun w h => (h.sub [3] rfl)) (Val.nilCheckP rfl) rfl ?_
    refine WA.take 2 rfl (by kernel_rfl) rfl (fun w h => (h.sub [3] rfl)) (Val.fldAddr rfl) rfl ?_
    refine WA.take 3 rfl (by kernel_rfl) rfl (fun w h => (h.sub [3] rfl)) (Val.fldAddr rfl) rfl ?_
    refine WA.take 4 rfl (by kernel_rfl) rfl (fun w h => (h.sub [3] rfl)) (Val.loadS rfl (Rd.own1 0 rfl rfl)) rfl ?_
    refine WA.eff1 (i := 5) (by kernel_rfl) rfl rfl ?_
    refine WL.callP [1, 1] rfl rfl (outInt o 116 sv1 [.bool bad] _ c.id _ hc.id (by simp only [List.length_append]; omega)) rfl ?_
    rintro _ _ _ - ⟨rfl, rfl, sv2, rfl⟩
    refine WL.conv (fun w h => h.sub [0, 1, 1, 0] rfl) ?_
    refine WL.nil ?_
    refine WK.anyStep (fun w h => (h.sub [3] rfl)) ?_
    refine WA.done (by kernel_rfl) ?_
    refine WX.inNormal ?_
    apply WX.doneN (ks := [0, 0])
    case hres => exact RunRes.r0 rfl
    case hp => rfl
    case hI => first | exact Mem.le.refl _ | assumption
    refine ⟨sv2, ?_⟩
    rw [hw, hok]
    rw [Bool.not_true, Bool.or_false]
  by_cases k6 : c.kind = 6
  · have hw : bs ++ c.w = bs ++ eInt c.kind ++ eInt c.id ++ c.atr.mtx.w := by simp [Cm.w, Cm.tail, k6, eInts]
    have hok : c.wok = true := by simp [Cm.wok, k6]
    rw [hw] at hl
    have hl0 := hl
    simp only [List.length_append] at hl0
    refine WX.thenC ?_
    refine WC.seq ?_
    refine WC.region ?_
    refine WL.val (Val.fldAddr rfl) rfl ?_
    refine WL.val (Val.loadS rfl (Rd.own1 3 rfl rfl)) rfl ?_
    refine WL.nil ?_
    refine WX.thenC ?_
    refine WC.block ?_
    refine WC.seq ?_
    refine WC.region ?_
    refine WL.val (Val.eql rfl rfl (beq_eq_false_iff_ne.2 (by omega))) rfl ?_
    refine WL.val (Val.assignB rfl) rfl ?_
    refine WL.nil ?_
    refine WX.thenC ?_
    refine WC.condF rfl ?_
    refine WC.seq ?_
    refine WC.seq ?_
    refine WC.region ?_
    refine WL.val (Val.eql rfl rfl (beq_eq_false_iff_ne.2 (by omega))) rfl ?_
    refine WL.val (Val.assignB rfl) rfl ?_
    refine WL.nil ?_
    refine WX.thenC ?_
    refine WC.condF rfl ?_
    refine WC.region ?_
    refine WL.val (Val.eql rfl rfl (beq_eq_false_iff_ne.2 (by omega))) rfl ?_
    refine WL.val (Val.assignB rfl) rfl ?_
    refine WL.nil ?_
    refine WX.thenC ?_
    refine WC.condF rfl ?_
    refine WC.seq ?_
    refine WC.region ?_
    refine WL.val (Val.eql rfl rfl (beq_eq_false_iff_ne.2 (by omega))) rfl ?_
    refine WL.val (Val.assignB rfl) rfl ?_
    refine WL.nil ?_
    refine WX.thenC ?_
    refine WC.condF rfl ?_
    refine WC.seq ?_
    refine WC.region ?_
    refine WL.val (Val.eql rfl rfl (beq_eq_false_iff_ne.2 (by omega))) rfl ?_
    refine WL.val (Val.assignB rfl) rfl ?_
    refine WL.nil ?_
    refine WX.thenC ?_
    refine WC.condF rfl ?_
    refine WC.seq ?_
    refine WC.region ?_
    refine WL.val (Val.eql rfl rfl (beq_iff_eq.2 (by omega))) rfl ?_
    refine WL.val (Val.assignB rfl) rfl ?_
    refine WL.nil ?_
    refine WX.thenC ?_
    refine WC.condT rfl ?_
    refine WC.seq ?_
    refine WC.drawK 999 I0 [3] rfl (by kernel_rfl) rfl rfl ?_
    refine WA.take 0 rfl (by kernel_rfl) rfl (fun w h => (h.sub [3] rfl)) (Val.moveP rfl) rfl ?_
    refine WA.take 1 rfl (by kernel_rfl) rfl (fun w h => (h.sub [3] rfl)) (Val.nilCheckP rfl) rfl ?_
    refine WA.take 2 rfl (by kernel_rfl) rfl (fun w h => (h.sub [3] rfl)) (Val.fldAddr rfl) rfl ?_
    refine WA.take 3 rfl (by kernel_rfl) rfl (fun w h => (h.sub [3] rfl)) (Val.fldAddr rfl) rfl ?_
    refine WA.take 4 rfl (by kernel_rfl) rfl (fun w h => (h.sub [3] rfl)) (Val.loadS rfl (Rd.own1 0 rfl rfl)) rfl ?_
    refine WA.eff1 (i := 5) (by kernel_rfl) rfl rfl ?_
    refine WL.callP [1, 1] rfl rfl (outInt o 116 sv1 [.bool bad] _ c.id _ hc.id (by simp only [List.length_append]; omega)) rfl ?_
    rintro _ _ _ - ⟨rfl, rfl, sv2, rfl⟩
    refine WL.conv (fun w h => h.sub [0, 1, 1, 0] rfl) ?_
    refine WL.nil ?_
    refine WK.anyStep (fun w h => (h.sub [3] rfl)) ?_
    refine WA.done (by kernel_rfl) ?_
    refine WX.thenC ?_
    refine WC.region ?_
    refine WL.val (Val.moveP rfl) rfl ?_
    refine WL.val (Val.fldAddr rfl) rfl ?_
    refine WL.val (Val.fldAddr rfl) rfl ?_
    refine WL.val (Val.loadO 3 rfl rfl rfl) rfl ?_
    refine WL.callP [1, 1] rfl rfl (omatrix_ctr o c.atr.mtx sv2 bad _ _ hc.atr.mtx hl) rfl ?_
    rintro _ I9 _ hI9 ⟨sv9, rfl⟩
    refine WL.nApp ?_
    refine WL.nil ?_
    refine WX.inNormal ?_
    have hI := hI9
    apply WX.doneN (ks := [1, 1])
    case hres => exact RunRes.r0 rfl
    case hp => rfl
    case hI => first | exact Mem.le.refl _ | assumption
    refine ⟨sv9, ?_⟩
    rw [hw, hok]
    rw [Bool.not_true, Bool.or_false]
  by_cases k7 : c.kind = 7
  · have hw : bs ++ c.w = bs ++ eInt c.kind ++ eInt c.id ++ c.atr.sty.w := by simp [Cm.w, Cm.tail, k7, eInts]
    have hok : c.wok = c.atr.sty.wok := by simp [Cm.wok, k7]
    rw [hw] at hl
    have hl0 := hl
    simp only [List.length_append] at hl0
    refine WX.thenC ?_
    refine WC.seq ?_
    refine WC.region ?_
    refine WL.val (Val.fldAddr rfl) rfl ?_
    refine WL.val (Val.loadS rfl (Rd.own1 3 rfl rfl)) rfl ?_
    refine WL.nil ?_
    refine WX.thenC ?_
    refine WC.block ?_
    refine WC.seq ?_
    refine WC.region ?_
    refine WL.val (Val.eql rfl rfl (beq_eq_false_iff_ne.2 (by omega))) rfl ?_
    refine WL.val (Val.assignB rfl) rfl ?_
    refine WL.nil ?_
    refine WX.thenC ?_
    refine WC.condF rfl ?_
    refine WC.seq ?_
    refine WC.seq ?_
    refine WC.region ?_
    refine WL.val (Val.eql rfl rfl (beq_eq_false_iff_ne.2 (by omega))) rfl ?_
    refine WL.val (Val.assignB rfl) rfl ?_
    refine WL.nil ?_
    refine WX.thenC ?_
    refine WC.condF rfl ?_
    refine WC.region ?_
    refine WL.val (Val.eql rfl rfl (beq_eq_false_iff_ne.2 (by omega))) rfl ?_
    refine WL.val (Val.assignB rfl) rfl ?_
    refine WL.nil ?_
    refine WX.thenC ?_
    refine WC.condF rfl ?_
    refine WC.seq ?_
    refine WC.region ?_
    refine WL.val (Val.eql rfl rfl (beq_eq_false_iff_ne.2 (by omega))) rfl ?_
    refine WL.val (Val.assignB rfl) rfl ?_
    refine WL.nil ?_
    refine WX.thenC ?_
    refine WC.condF rfl ?_
    refine WC.seq ?_
    refine WC.region ?_
    refine WL.val (Val.eql rfl rfl (beq_eq_false_iff_ne.2 (by omega))) rfl ?_
    refine WL.val (Val.assignB rfl) rfl ?_
    refine WL.nil ?_
    refine WX.thenC ?_
    refine WC.condF rfl ?_
    refine WC.seq ?_
    refine WC.region ?_
    refine WL.val (Val.eql rfl rfl (beq_eq_false_iff_ne.2 (by omega))) rfl ?_
    refine WL.val (Val.assignB rfl) rfl ?_
    refine WL.nil ?_
    refine WX.thenC ?_
    refine WC.condF rfl ?_
    refine WC.seq ?_
    refine WC.region ?_
    refine WL.val (Val.eql rfl rfl (beq_iff_eq.2 (by omega))) rfl ?_
    refine WL.val (Val.assignB rfl) rfl ?_
    refine WL.nil ?_
    refine WX.thenC ?_
    refine WC.condT rfl ?_
    refine WC.seq ?_
    refine WC.drawK 999 I0 [3] rfl (by kernel_rfl) rfl rfl ?_
    refine WA.take 0 rfl (by kernel_rfl) rfl (fun w h => (h.sub [3] rfl)) (Val.moveP rfl) rfl ?_
    refine WA.take 1 rfl (by kernel_rfl) rfl (fun w h => (h.sub [3] rfl)) (Val.nilCheckP rfl) rfl ?_
    refine WA.take 2 rfl (by kernel_rfl) rfl (fun w h => (h.sub [3] rfl)) (Val.fldAddr rfl) rfl ?_
    refine WA.take 3 rfl (by kernel_rfl) rfl (fun w h => (h.sub [3] rfl)) (Val.fldAddr rfl) rfl ?_
    refine WA.take 4 rfl (by kernel_rfl) rfl (fun w h => (h.sub [3] rfl)) (Val.loadS rfl (Rd.own1 0 rfl rfl)) rfl ?_
    refine WA.eff1 (i := 5) (by kernel_rfl) rfl rfl ?_
    refine WL.callP [1, 1] rfl rfl (outInt o 116 sv1 [.bool bad] _ c.id _ hc.id (by simp only [List.length_append]; omega)) rfl ?_
    rintro _ _ _ - ⟨rfl, rfl, sv2, rfl⟩
    refine WL.conv (fun w h => h.sub [0, 1, 1, 0] rfl) ?_
    refine WL.nil ?_
    refine WK.anyStep (fun w h => (h.sub [3] rfl)) ?_
    refine WA.done (by kernel_rfl) ?_
    refine WX.thenC ?_
    refine WC.region ?_
    refine WL.val (Val.moveP rfl) rfl ?_
    refine WL.val (Val.fldAddr rfl) rfl ?_
    refine WL.val (Val.fldAddr rfl) rfl ?_
    refine WL.val (Val.loadO 3 rfl rfl rfl) rfl ?_
    refine WL.callP [1, 1] rfl rfl (ostyle_ctr o c.atr.sty _ _ _ sv2 bad _ _ hc.atr.sty hl) rfl ?_
    rintro _ I9 _ hI9 ⟨sv9, rfl⟩
    refine WL.nApp ?_
    refine WL.nil ?_
    refine WX.inNormal ?_
    have hI := hI9
    apply WX.doneN (ks := [1, 1])
    case hres => exact RunRes.r0 rfl
    case hp => rfl
    case hI => first | exact Mem.le.refl _ | assumption
    refine ⟨sv9, ?_⟩
    rw [hw, hok]
  by_cases k8 : c.kind = 8
  · have hw : bs ++ c.w = bs ++ eInt c.kind ++ eInt c.id ++ lw Sg.w c.atr.path := by simp [Cm.w, Cm.tail, k8, eInts]
    have hok : c.wok = pathWok c.atr.path := by simp [Cm.wok, k8]
    rw [hw] at hl
    have hl0 := hl
    simp only [List.length_append] at hl0
    refine WX.thenC ?_
    refine WC.seq ?_
    refine WC.region ?_
    refine WL.val (Val.fldAddr rfl) rfl ?_
    refine WL.val (Val.loadS rfl (Rd.own1 3 rfl rfl)) rfl ?_
    refine WL.nil ?_
    refine WX.thenC ?_
    refine WC.block ?_
    refine WC.seq ?_
    refine WC.region ?_
    refine WL.val (Val.eql rfl rfl (beq_eq_false_iff_ne.2 (by omega))) rfl ?_
    refine WL.val (Val.assignB rfl) rfl ?_
    refine WL.nil ?_
    refine WX.thenC ?_
    refine WC.condF rfl ?_
    refine WC.seq ?_
    refine WC.seq ?_
    refine WC.region ?_
    refine WL.val (Val.eql rfl rfl (beq_eq_false_iff_ne.2 (by omega))) rfl ?_
    refine WL.val (Val.assignB rfl) rfl ?_
    refine WL.nil ?_
    refine WX.thenC ?_
    refine WC.condF rfl ?_
    refine WC.region ?_
    refine WL.val (Val.eql rfl rfl (beq_eq_false_iff_ne.2 (by omega))) rfl ?_
    refine WL.val (Val.assignB rfl) rfl ?_
    refine WL.nil ?_
    refine WX.thenC ?_
    refine WC.condF rfl ?_
    refine WC.seq ?_
    refine WC.region ?_
    refine WL.val (Val.eql rfl rfl (beq_eq_false_iff_ne.2 (by omega))) rfl ?_
    refine WL.val (Val.assignB rfl) rfl ?_
    refine WL.nil ?_
    refine WX.thenC ?_
    refine WC.condF rfl ?_
    refine WC.seq ?_
    refine WC.region ?_
    refine WL.val (Val.eql rfl rfl (beq_eq_false_iff_ne.2 (by omega))) rfl ?_
    refine WL.val (Val.assignB rfl) rfl ?_
    refine WL.nil ?_
    refine WX.thenC ?_
    refine WC.condF rfl ?_
    refine WC.seq ?_
    refine WC.region ?_
    refine WL.val (Val.eql rfl rfl (beq_eq_false_iff_ne.2 (by omega))) rfl ?_
    refine WL.val (Val.assignB rfl) rfl ?_
    refine WL.nil ?_
    refine WX.thenC ?_
    refine WC.condF rfl ?_
    refine WC.seq ?_
    refine WC.region ?_
    refine WL.val (Val.eql rfl rfl (beq_eq_false_iff_ne.2 (by omega))) rfl ?_
    refine WL.val (Val.assignB rfl) rfl ?_
    refine WL.nil ?_
    refine WX.thenC ?_
    refine WC.condF rfl ?_
    refine WC.seq ?_
    refine WC.region ?_
    refine WL.val (Val.eql rfl rfl (beq_iff_eq.2 (by omega))) rfl ?_
    refine WL.val (Val.assignB rfl) rfl ?_
    refine WL.nil ?_
    refine WX.thenC ?_
    refine WC.condT rfl ?_
    refine WC.seq ?_
    refine WC.drawK 999 I0 [3] rfl (by kernel_rfl) rfl rfl ?_
    refine WA.take 0 rfl (by kernel_rfl) rfl (fun w h => (h.sub [3] rfl)) (Val.moveP rfl) rfl ?_
    refine WA.take 1 rfl (by kernel_rfl) rfl (fun w h => (h.sub [3] rfl)) (Val.nilCheckP rfl) rfl ?_
    refine WA.take 2 rfl (by kernel_rfl) rfl (fun w h => (h.sub [3] rfl)) (Val.fldAddr rfl) rfl ?_
    refine WA.take 3 rfl (by kernel_rfl) rfl (fun w h => (h.sub [3] rfl)) (Val.fldAddr rfl) rfl ?_
    refine WA.take 4 rfl (by kernel_rfl) rfl (fun w h => (h.sub [3] rfl)) (Val.loadS rfl (Rd.own1 0 rfl rfl)) rfl ?_
    refine WA.eff1 (i := 5) (by kernel_rfl) rfl rfl ?_
    refine WL.callP [1, 1] rfl rfl (outInt o 116 sv1 [.bool bad] _ c.id _ hc.id (by simp only [List.length_append]; omega)) rfl ?_
    rintro _ _ _ - ⟨rfl, rfl, sv2, rfl⟩
    refine WL.conv (fun w h => h.sub [0, 1, 1, 0] rfl) ?_
    refine WL.nil ?_
    refine WK.anyStep (fun w h => (h.sub [3] rfl)) ?_
    refine WA.done (by kernel_rfl) ?_
    refine WX.thenC ?_
    refine WC.region ?_
    refine WL.val (Val.moveP rfl) rfl ?_
    refine WL.val (Val.fldAddr rfl) rfl ?_
    refine WL.val (Val.fldAddr rfl) rfl ?_
    refine WL.val (Val.loadS rfl (Rd.own1 3 rfl rfl)) rfl ?_
    refine WL.callP [1, 1] rfl rfl (opath_ctr o c.atr.path _ sv2 bad _ _ hN hc.atr.path hl) rfl ?_
    rintro _ I9 _ hI9 ⟨sv9, rfl⟩
    refine WL.nApp ?_
    refine WL.nil ?_
    refine WX.inNormal ?_
    have hI := hI9
    apply WX.doneN (ks := [1, 1])
    case hres => exact RunRes.r0 rfl
    case hp => rfl
    case hI => first | exact Mem.le.refl _ | assumption
    refine ⟨sv9, ?_⟩
    rw [hw, hok]
    rw [show (bad || !pathWok c.atr.path) = (bad || decide (4096 < (c.atr.path.length : Int)) || !c.atr.path.all Sg.wok) by
      unfold pathWok
      cases bad <;> cases decide (4096 < (c.atr.path.length : Int)) <;> cases c.atr.path.all Sg.wok <;> rfl]
  by_cases k9 : c.kind = 9
  · have hw : bs ++ c.w = bs ++ eInt c.kind ++ eInts [c.id, c.i] ++ c.seg.w := by simp [Cm.w, Cm.tail, k9, eInts]
    have hok : c.wok = c.seg.wok := by simp [Cm.wok, k9]
    rw [hw] at hl
    have hl0 := hl
    simp only [List.length_append] at hl0
    refine WX.thenC ?_
    refine WC.seq ?_
    refine WC.region ?_
    refine WL.val (Val.fldAddr rfl) rfl ?_
    refine WL.val (Val.loadS rfl (Rd.own1 3 rfl rfl)) rfl ?_
    refine WL.nil ?_
    refine WX.thenC ?_
    refine WC.block ?_
    refine WC.seq ?_
    refine WC.region ?_
    refine WL.val (Val.eql rfl rfl (beq_eq_false_iff_ne.2 (by omega))) rfl ?_
    refine WL.val (Val.assignB rfl) rfl ?_
    refine WL.nil ?_
    refine WX.thenC ?_
    refine WC.condF rfl ?_
    refine WC.seq ?_
    refine WC.seq ?_
    refine WC.region ?_
    refine WL.val (Val.eql rfl rfl (beq_eq_false_iff_ne.2 (by omega))) rfl ?_
    refine WL.val (Val.assignB rfl) rfl ?_
    refine WL.nil ?_
    refine WX.thenC ?_
    refine WC.condF rfl ?_
    refine WC.region ?_
    refine WL.val (Val.eql rfl rfl (beq_eq_false_iff_ne.2 (by omega))) rfl ?_
    refine WL.val (Val.assignB rfl) rfl ?_
    refine WL.nil ?_
    refine WX.thenC ?_
    refine WC.condF rfl ?_
    refine WC.seq ?_
    refine WC.region ?_
    refine WL.val (Val.eql rfl rfl (beq_eq_false_iff_ne.2 (by omega))) rfl ?_
    refine WL.val (Val.assignB rfl) rfl ?_
    refine WL.nil ?_
    refine WX.thenC ?_
    refine WC.condF rfl ?_
    refine WC.seq ?_
    refine WC.region ?_
    refine WL.val (Val.eql rfl rfl (beq_eq_false_iff_ne.2 (by omega))) rfl ?_
    refine WL.val (Val.assignB rfl) rfl ?_
    refine WL.nil ?_
    refine WX.thenC ?_
    refine WC.condF rfl ?_
    refine WC.seq ?_
    refine WC.region ?_
    refine WL.val (Val.eql rfl rfl (beq_eq_false_iff_ne.2 (by omega))) rfl ?_
    refine WL.val (Val.assignB rfl) rfl ?_
    refine WL.nil ?_
    refine WX.thenC ?_
    refine WC.condF rfl ?_
    refine WC.seq ?_
    refine WC.region ?_
    refine WL.val (Val.eql rfl rfl (beq_eq_false_iff_ne.2 (by omega))) rfl ?_
    refine WL.val (Val.assignB rfl) rfl ?_
    refine WL.nil ?_
    refine WX.thenC ?_
    refine WC.condF rfl ?_
    refine WC.seq ?_
    refine WC.region ?_
    refine WL.val (Val.eql rfl rfl (beq_eq_false_iff_ne.2 (by omega))) rfl ?_
    refine WL.val (Val.assignB rfl) rfl ?_
    refine WL.nil ?_
    refine WX.thenC ?_
    refine WC.condF rfl ?_
    refine WC.seq ?_
    refine WC.region ?_
    refine WL.val (Val.eql rfl rfl (beq_iff_eq.2 (by omega))) rfl ?_
    refine WL.val (Val.assignB rfl) rfl ?_
    refine WL.nil ?_
    refine WX.thenC ?_
    refine WC.condT rfl ?_
    refine WC.seq ?_
    refine WC.region ?_
    refine WL.val (Val.moveP rfl) rfl ?_
    refine WL.val (Val.fldAddr rfl) rfl ?_
    refine WL.val (Val.loadS rfl (Rd.own1 3 rfl rfl)) rfl ?_
    refine WL.val (Val.fldAddr rfl) rfl ?_
    refine WL.val (Val.loadS rfl (Rd.own1 3 rfl rfl)) rfl ?_
    (refine WL.buildSlice (by with_unfolding_all exact rfl) rfl (by with_unfolding_all exact rfl) rfl ?_; intro _)
    refine WL.nApp ?_
    rename_i h
    refine WL.freezeBox (xs := [vi c.id, vi c.i]) 4 rfl fun I2 hI2 hA2 => ?_
    refine WL.callP [1, 1] rfl rfl (ints_ctr o (.slice (some ⟨h, 0, none⟩) 2 2) [c.id, c.i] sv1 bad _ _ (litInts _ hA2 ⟨hc.id, hc.i, trivial⟩) (by simp only [List.length_append]; omega)) rfl ?_
    rintro _ I3 _ hI3 ⟨sv2, rfl⟩
    refine WL.nApp ?_
    refine WL.nil ?_
    refine WX.thenC ?_
    refine WC.region ?_
    refine WL.val (Val.moveP rfl) rfl ?_
    refine WL.val (Val.fldAddr rfl) rfl ?_
    refine WL.val (Val.loadO 1 rfl rfl rfl) rfl ?_
    refine WL.callP [2, 2] rfl rfl (oseg_ctr o c.seg sv2 bad _ _ ((hN.mono hI2).mono hI3) hc.seg hl) rfl ?_
    rintro _ I9 _ hI9 ⟨sv9, rfl⟩
    refine WL.nApp ?_
    refine WL.nil ?_
    refine WX.inNormal ?_
    have hI := ((hI2.trans hI3).trans hI9)
    apply WX.doneN (ks := [1, 1])
    case hres => exact RunRes.r0 rfl
    case hp => rfl
    case hI => first | exact Mem.le.refl _ | assumption
    refine ⟨sv9, ?_⟩
    rw [hw, hok]
  by_cases k10 : c.kind = 10
  · have hw : bs ++ c.w = bs ++ eInt c.kind ++ eInts [c.id, c.i] := by simp [Cm.w, Cm.tail, k10, eInts]
    have hok : c.wok = true := by simp [Cm.wok, k10]
    rw [hw] at hl
    have hl0 := hl
    simp only [List.length_append] at hl0
    refine WX.thenC ?_
    refine WC.seq ?_
    refine WC.region ?_
    refine WL.val (Val.fldAddr rfl) rfl ?_
    refine WL.val (Val.loadS rfl (Rd.own1 3 rfl rfl)) rfl ?_
    refine WL.nil ?_
    refine WX.thenC ?_
    refine WC.block ?_
    refine WC.seq ?_
    refine WC.region ?_
    refine WL.val (Val.eql rfl rfl (beq_eq_false_iff_ne.2 (by omega))) rfl ?_
    refine WL.val (Val.assignB rfl) rfl ?_
    refine WL.nil ?_
    refine WX.thenC ?_
    refine WC.condF rfl ?_
    refine WC.seq ?_
    refine WC.seq ?_
    refine WC.region ?_
    refine WL.val (Val.eql rfl rfl (beq_eq_false_iff_ne.2 (by omega))) rfl ?_
    refine WL.val (Val.assignB rfl) rfl ?_
    refine WL.nil ?_
    refine WX.thenC ?_
    refine WC.condF rfl ?_
    refine WC.region ?_
    refine WL.val (Val.eql rfl rfl (beq_eq_false_iff_ne.2 (by omega))) rfl ?_
    refine WL.val (Val.assignB rfl) rfl ?_
    refine WL.nil ?_
    refine WX.thenC ?_
    refine WC.condF rfl ?_
    refine WC.seq ?_
    refine WC.region ?_
    refine WL.val (Val.eql rfl rfl (beq_eq_false_iff_ne.2 (by omega))) rfl ?_
    refine WL.val (Val.assignB rfl) rfl ?_
    refine WL.nil ?_
    refine WX.thenC ?_
    refine WC.condF rfl ?_
    refine WC.seq ?_
    refine WC.region ?_
    refine WL.val (Val.eql rfl rfl (beq_eq_false_iff_ne.2 (by omega))) rfl ?_
    refine WL.val (Val.assignB rfl) rfl ?_
    refine WL.nil ?_
    refine WX.thenC ?_
    refine WC.condF rfl ?_
    refine WC.seq ?_
    refine WC.region ?_
    refine WL.val (Val.eql rfl rfl (beq_eq_false_iff_ne.2 (by omega))) rfl ?_
    refine WL.val (Val.assignB rfl) rfl ?_
    refine WL.nil ?_
    refine WX.thenC ?_
    refine WC.condF rfl ?_
    refine WC.seq ?_
    refine WC.region ?_
    refine WL.val (Val.eql rfl rfl (beq_eq_false_iff_ne.2 (by omega))) rfl ?_
    refine WL.val (Val.assignB rfl) rfl ?_
    refine WL.nil ?_
    refine WX.thenC ?_
    refine WC.condF rfl ?_
    refine WC.seq ?_
    refine WC.region ?_
    refine WL.val (Val.eql rfl rfl (beq_eq_false_iff_ne.2 (by omega))) rfl ?_
    refine WL.val (Val.assignB rfl) rfl ?_
    refine WL.nil ?_
    refine WX.thenC ?_
    refine WC.condF rfl ?_
    refine WC.seq ?_
    refine WC.region ?_
    refine WL.val (Val.eql rfl rfl (beq_eq_false_iff_ne.2 (by omega))) rfl ?_
    refine WL.val (Val.assignB rfl) rfl ?_
    refine WL.nil ?_
    refine WX.thenC ?_
    refine WC.condF rfl ?_
    refine WC.seq ?_
    refine WC.seq ?_
    refine WC.region ?_
    refine WL.val (Val.eql rfl rfl (beq_iff_eq.2 (by omega))) rfl ?_
    refine WL.val (Val.assignB rfl) rfl ?_
    refine WL.nil ?_
    refine WX.thenC ?_
    refine WC.condT rfl ?_
    refine WC.skip ?_
    refine WX.thenC ?_
    refine WC.condT rfl ?_
    refine WC.region ?_
    refine WL.val (Val.moveP rfl) rfl ?_
    refine WL.val (Val.fldAddr rfl) rfl ?_
    refine WL.val (Val.loadS rfl (Rd.own1 3 rfl rfl)) rfl ?_
    refine WL.val (Val.fldAddr rfl) rfl ?_
    refine WL.val (Val.loadS rfl (Rd.own1 3 rfl rfl)) rfl ?_
    (refine WL.buildSlice (by with_unfolding_all exact rfl) rfl (by with_unfolding_all exact rfl) rfl ?_; intro _)
    refine WL.nApp ?_
    rename_i h
    refine WL.freezeBox (xs := [vi c.id, vi c.i]) 4 rfl fun I2 hI2 hA2 => ?_
    refine WL.callP [1, 1] rfl rfl (ints_ctr o (.slice (some ⟨h, 0, none⟩) 2 2) [c.id, c.i] sv1 bad _ _ (litInts _ hA2 ⟨hc.id, hc.i, trivial⟩) (by simp only [List.length_append]; omega)) rfl ?_
    rintro _ I3 _ hI3 ⟨sv2, rfl⟩
    refine WL.nApp ?_
    refine WL.nil ?_
    refine WX.inNormal ?_
    have hI := (hI2.trans hI3)
    apply WX.doneN (ks := [1, 1])
    case hres => exact RunRes.r0 rfl
    case hp => rfl
    case hI => first | exact Mem.le.refl _ | assumption
    refine ⟨sv2, ?_⟩
    rw [hw, hok]
    rw [Bool.not_true, Bool.or_false]
  by_cases k11 : c.kind = 11
  · have hw : bs ++ c.w = bs ++ eInt c.kind ++ eInts [c.id, c.i, c.k] ++ c.point.w := by simp [Cm.w, Cm.tail, k11, eInts]
    have hok : c.wok = true := by simp [Cm.wok, k11]
    rw [hw] at hl
    have hl0 := hl
    simp only [List.length_append] at hl0
    refine WX.thenC ?_
    refine WC.seq ?_
    refine WC.region ?_
    refine WL.val (Val.fldAddr rfl) rfl ?_
    refine WL.val (Val.loadS rfl (Rd.own1 3 rfl rfl)) rfl ?_
    refine WL.nil ?_
    refine WX.thenC ?_
    refine WC.block ?_
    refine WC.seq ?_
    refine WC.region ?_
    refine WL.val (Val.eql rfl rfl (beq_eq_false_iff_ne.2 (by omega))) rfl ?_
    refine WL.val (Val.assignB rfl) rfl ?_
    refine WL.nil ?_
    refine WX.thenC ?_
    refine WC.condF rfl ?_
    refine WC.seq ?_
    refine WC.seq ?_
    refine WC.region ?_
    refine WL.val (Val.eql rfl rfl (beq_eq_false_iff_ne.2 (by omega))) rfl ?_
    refine WL.val (Val.assignB rfl) rfl ?_
    refine WL.nil ?_
    refine WX.thenC ?_
    refine WC.condF rfl ?_
    refine WC.region ?_
    refine WL.val (Val.eql rfl rfl (beq_eq_false_iff_ne.2 (by omega))) rfl ?_
    refine WL.val (Val.assignB rfl) rfl ?_
    refine WL.nil ?_
    refine WX.thenC ?_
    refine WC.condF rfl ?_
    refine WC.seq ?_
    refine WC.region ?_
    refine WL.val (Val.eql rfl rfl (beq_eq_false_iff_ne.2 (by omega))) rfl ?_
    refine WL.val (Val.assignB rfl) rfl ?_
    refine WL.nil ?_
    refine WX.thenC ?_
    refine WC.condF rfl ?_
    refine WC.seq ?_
    refine WC.region ?_
    refine WL.val (Val.eql rfl rfl (beq_eq_false_iff_ne.2 (by omega))) rfl ?_
    refine WL.val (Val.assignB rfl) rfl ?_
    refine WL.nil ?_
    refine WX.thenC ?_
    refine WC.condF rfl ?_
    refine WC.seq ?_
    refine WC.region ?_
    refine WL.val (Val.eql rfl rfl (beq_eq_false_iff_ne.2 (by omega))) rfl ?_
    refine WL.val (Val.assignB rfl) rfl ?_
    refine WL.nil ?_
    refine WX.thenC ?_
    refine WC.condF rfl ?_
    refine WC.seq ?_
    refine WC.region ?_
    refine WL.val (Val.eql rfl rfl (beq_eq_false_iff_ne.2 (by omega))) rfl ?_
    refine WL.val (Val.assignB rfl) rfl ?_
    refine WL.nil ?_
    refine WX.thenC ?_
    refine WC.condF rfl ?_
    refine WC.seq ?_
    refine WC.region ?_
    refine WL.val (Val.eql rfl rfl (beq_eq_false_iff_ne.2 (by omega))) rfl ?_
    refine WL.val (Val.assignB rfl) rfl ?_
    refine WL.nil ?_
    refine WX.thenC ?_
    refine WC.condF rfl ?_
    refine WC.seq ?_
    refine WC.region ?_
    refine WL.val (Val.eql rfl rfl (beq_eq_false_iff_ne.2 (by omega))) rfl ?_
    refine WL.val (Val.assignB rfl) rfl ?_
    refine WL.nil ?_
    refine WX.thenC ?_
    refine WC.condF rfl ?_
    refine WC.seq ?_
    refine WC.seq ?_
    refine WC.region ?_
    refine WL.val (Val.eql rfl rfl (beq_eq_false_iff_ne.2 (by omega))) rfl ?_
    refine WL.val (Val.assignB rfl) rfl ?_
    refine WL.nil ?_
    refine WX.thenC ?_
    refine WC.condF rfl ?_
    refine WC.region ?_
    refine WL.val (Val.eql rfl rfl (beq_eq_false_iff_ne.2 (by omega))) rfl ?_
    refine WL.val (Val.assignB rfl) rfl ?_
    refine WL.nil ?_
    refine WX.thenC ?_
    refine WC.condF rfl ?_
    refine WC.seq ?_
    refine WC.region ?_
    refine WL.val (Val.eql rfl rfl (beq_iff_eq.2 (by omega))) rfl ?_
    refine WL.val (Val.assignB rfl) rfl ?_
    refine WL.nil ?_
    refine WX.thenC ?_
    refine WC.condT rfl ?_
    refine WC.seq ?_
    refine WC.region ?_
    refine WL.val (Val.moveP rfl) rfl ?_
    refine WL.val (Val.fldAddr rfl) rfl ?_
    refine WL.val (Val.loadS rfl (Rd.own1 3 rfl rfl)) rfl ?_
    refine WL.val (Val.fldAddr rfl) rfl ?_
    refine WL.val (Val.loadS rfl (Rd.own1 3 rfl rfl)) rfl ?_
    refine WL.val (Val.fldAddr rfl) rfl ?_
    refine WL.val (Val.loadS rfl (Rd.own1 3 rfl rfl)) rfl ?_
    (refine WL.buildSlice (by with_unfolding_all exact rfl) rfl (by with_unfolding_all exact rfl) rfl ?_; intro _)
    refine WL.nApp ?_
    rename_i h
    refine WL.freezeBox (xs := [vi c.id, vi c.i, vi c.k]) 4 rfl fun I2 hI2 hA2 => ?_
    refine WL.callP [1, 1] rfl rfl (ints_ctr o (.slice (some ⟨h, 0, none⟩) 3 3) [c.id, c.i, c.k] sv1 bad _ _ (litInts _ hA2 ⟨hc.id, hc.i, hc.k, trivial⟩) (by simp only [List.length_append]; omega)) rfl ?_
    rintro _ I3 _ hI3 ⟨sv2, rfl⟩
    refine WL.nApp ?_
    refine WL.nil ?_
    refine WX.thenC ?_
    refine WC.region ?_
    refine WL.val (Val.moveP rfl) rfl ?_
    refine WL.val (Val.fldAddr rfl) rfl ?_
    refine WL.val (Val.loadO 1 rfl rfl rfl) rfl ?_
    refine WL.callP [2, 2] rfl rfl (opoint_ctr o c.point sv2 bad _ _ hc.point hl) rfl ?_
    rintro _ I9 _ hI9 ⟨sv9, rfl⟩
    refine WL.nApp ?_
    refine WL.nil ?_
    refine WX.inNormal ?_
    have hI := ((hI2.trans hI3).trans hI9)
    apply WX.doneN (ks := [1, 1])
    case hres => exact RunRes.r0 rfl
    case hp => rfl
    case hI => first | exact Mem.le.refl _ | assumption
    refine ⟨sv9, ?_⟩
    rw [hw, hok]
    rw [Bool.not_true, Bool.or_false]
  by_cases k12 : c.kind = 12
  · have hw : bs ++ c.w = bs ++ eInt c.kind ++ eInts [c.id, c.i] := by simp [Cm.w, Cm.tail, k12, eInts]
    have hok : c.wok = true := by simp [Cm.wok, k12]
    rw [hw] at hl
    have hl0 := hl
    simp only [List.length_append] at hl0
    refine WX.thenC ?_
    refine WC.seq ?_
    refine WC.region ?_
    refine WL.val (Val.fldAddr rfl) rfl ?_
    refine WL.val (Val.loadS rfl (Rd.own1 3 rfl rfl)) rfl ?_
    refine WL.nil ?_
    refine WX.thenC ?_
    refine WC.block ?_
    refine WC.seq ?_
    refine WC.region ?_
    refine WL.val (Val.eql rfl rfl (beq_eq_false_iff_ne.2 (by omega))) rfl ?_
    refine WL.val (Val.assignB rfl) rfl ?_
    refine WL.nil ?_
    refine WX.thenC ?_
    refine WC.condF rfl ?_
    refine WC.seq ?_
    refine WC.seq ?_
    refine WC.region ?_
    refine WL.val (Val.eql rfl rfl (beq_eq_false_iff_ne.2 (by omega))) rfl ?_
    refine WL.val (Val.assignB rfl) rfl ?_
    refine WL.nil ?_
    refine WX.thenC ?_
    refine WC.condF rfl ?_
    refine WC.region ?_
    refine WL.val (Val.eql rfl rfl (beq_eq_false_iff_ne.2 (by omega))) rfl ?_
    refine WL.val (Val.assignB rfl) rfl ?_
    refine WL.nil ?_
    refine WX.thenC ?_
    refine WC.condF rfl ?_
    refine WC.seq ?_
    refine WC.region ?_
    refine WL.val (Val.eql rfl rfl (beq_eq_false_iff_ne.2 (by omega))) rfl ?_
    refine WL.val (Val.assignB rfl) rfl ?_
    refine WL.nil ?_
    refine WX.thenC ?_
    refine WC.condF rfl ?_
    refine WC.seq ?_
    refine WC.region ?_
    refine WL.val (Val.eql rfl rfl (beq_eq_false_iff_ne.2 (by omega))) rfl ?_
    refine WL.val (Val.assignB rfl) rfl ?_
    refine WL.nil ?_
    refine WX.thenC ?_
    refine WC.condF rfl ?_
    refine WC.seq ?_
    refine WC.region ?_
    refine WL.val (Val.eql rfl rfl (beq_eq_false_iff_ne.2 (by omega))) rfl ?_
    refine WL.val (Val.assignB rfl) rfl ?_
    refine WL.nil ?_
    refine WX.thenC ?_
    refine WC.condF rfl ?_
    refine WC.seq ?_
    refine WC.region ?_
    refine WL.val (Val.eql rfl rfl (beq_eq_false_iff_ne.2 (by omega))) rfl ?_
    refine WL.val (Val.assignB rfl) rfl ?_
    refine WL.nil ?_
    refine WX.thenC ?_
    refine WC.condF rfl ?_
    refine WC.seq ?_
    refine WC.region ?_
    refine WL.val (Val.eql rfl rfl (beq_eq_false_iff_ne.2 (by omega))) rfl ?_
    refine WL.val (Val.assignB rfl) rfl ?_
    refine WL.nil ?_
    refine WX.thenC ?_
    refine WC.condF rfl ?_
    refine WC.seq ?_
    refine WC.region ?_
    refine WL.val (Val.eql rfl rfl (beq_eq_false_iff_ne.2 (by omega))) rfl ?_
    refine WL.val (Val.assignB rfl) rfl ?_
    refine WL.nil ?_
    refine WX.thenC ?_
    refine WC.condF rfl ?_
    refine WC.seq ?_
    refine WC.seq ?_
    refine WC.region ?_
    refine WL.val (Val.eql rfl rfl (beq_eq_false_iff_ne.2 (by omega))) rfl ?_
    refine WL.val (Val.assignB rfl) rfl ?_
    refine WL.nil ?_
    refine WX.thenC ?_
    refine WC.condF rfl ?_
    refine WC.region ?_
    refine WL.val (Val.eql rfl rfl (beq_iff_eq.2 (by omega))) rfl ?_
    refine WL.val (Val.assignB rfl) rfl ?_
    refine WL.nil ?_
    refine WX.thenC ?_
    refine WC.condT rfl ?_
    refine WC.region ?_
    refine WL.val (Val.moveP rfl) rfl ?_
    refine WL.val (Val.fldAddr rfl) rfl ?_
    refine WL.val (Val.loadS rfl (Rd.own1 3 rfl rfl)) rfl ?_
    refine WL.val (Val.fldAddr rfl) rfl ?_
    refine WL.val (Val.loadS rfl (Rd.own1 3 rfl rfl)) rfl ?_
    (refine WL.buildSlice (by with_unfolding_all exact rfl) rfl (by with_unfolding_all exact rfl) rfl ?_; intro _)
    refine WL.nApp ?_
    rename_i h
    refine WL.freezeBox (xs := [vi c.id, vi c.i]) 4 rfl fun I2 hI2 hA2 => ?_
    refine WL.callP [1, 1] rfl rfl (ints_ctr o (.slice (some ⟨h, 0, none⟩) 2 2) [c.id, c.i] sv1 bad _ _ (litInts _ hA2 ⟨hc.id, hc.i, trivial⟩) (by simp only [List.length_append]; omega)) rfl ?_
    rintro _ I3 _ hI3 ⟨sv2, rfl⟩
    refine WL.nApp ?_
    refine WL.nil ?_
    refine WX.inNormal ?_
    have hI := (hI2.trans hI3)
    apply WX.doneN (ks := [1, 1])
    case hres => exact RunRes.r0 rfl
    case hp => rfl
    case hI => first | exact Mem.le.refl _ | assumption
    refine ⟨sv2, ?_⟩
    rw [hw, hok]
    rw [Bool.not_true, Bool.or_false]
  refine WX.thenC ?_
  refine WC.seq ?_
  refine WC.region ?_
  refine WL.val (Val.fldAddr rfl) rfl ?_
  refine WL.val (Val.loadS rfl (Rd.own1 3 rfl rfl)) rfl ?_
  refine WL.nil ?_
  refine WX.thenC ?_
  refine WC.block ?_
  refine WC.seq ?_
  refine WC.region ?_
  refine WL.val (Val.eql rfl rfl (beq_eq_false_iff_ne.2 (by omega))) rfl ?_
  refine WL.val (Val.assignB rfl) rfl ?_
  refine WL.nil ?_
  refine WX.thenC ?_
  refine WC.condF rfl ?_
  refine WC.seq ?_
  refine WC.seq ?_
  refine WC.region ?_
  refine WL.val (Val.eql rfl rfl (beq_eq_false_iff_ne.2 (by omega))) rfl ?_
  refine WL.val (Val.assignB rfl) rfl ?_
  refine WL.nil ?_
  refine WX.thenC ?_
  refine WC.condF rfl ?_
  refine WC.region ?_
  refine WL.val (Val.eql rfl rfl (beq_eq_false_iff_ne.2 (by omega))) rfl ?_
  refine WL.val (Val.assignB rfl) rfl ?_
  refine WL.nil ?_
  refine WX.thenC ?_
  refine WC.condF rfl ?_
  refine WC.seq ?_
  refine WC.region ?_
  refine WL.val (Val.eql rfl rfl (beq_eq_false_iff_ne.2 (by omega))) rfl ?_
  refine WL.val (Val.assignB rfl) rfl ?_
  refine WL.nil ?_
  refine WX.thenC ?_
  refine WC.condF rfl ?_
  refine WC.seq ?_
  refine WC.region ?_
  refine WL.val (Val.eql rfl rfl (beq_eq_false_iff_ne.2 (by omega))) rfl ?_
  refine WL.val (Val.assignB rfl) rfl ?_
  refine WL.nil ?_
  refine WX.thenC ?_
  refine WC.condF rfl ?_
  refine WC.seq ?_
  refine WC.region ?_
  refine WL.val (Val.eql rfl rfl (beq_eq_false_iff_ne.2 (by omega))) rfl ?_
  refine WL.val (Val.assignB rfl) rfl ?_
  refine WL.nil ?_
  refine WX.thenC ?_
  refine WC.condF rfl ?_
  refine WC.seq ?_
  refine WC.region ?_
  refine WL.val (Val.eql rfl rfl (beq_eq_false_iff_ne.2 (by omega))) rfl ?_
  refine WL.val (Val.assignB rfl) rfl ?_
  refine WL.nil ?_
  refine WX.thenC ?_
  refine WC.condF rfl ?_
  refine WC.seq ?_
  refine WC.region ?_
  refine WL.val (Val.eql rfl rfl (beq_eq_false_iff_ne.2 (by omega))) rfl ?_
  refine WL.val (Val.assignB rfl) rfl ?_
  refine WL.nil ?_
  refine WX.thenC ?_
  refine WC.condF rfl ?_
  refine WC.seq ?_
  refine WC.region ?_
  refine WL.val (Val.eql rfl rfl (beq_eq_false_iff_ne.2 (by omega))) rfl ?_
  refine WL.val (Val.assignB rfl) rfl ?_
  refine WL.nil ?_
  refine WX.thenC ?_
  refine WC.condF rfl ?_
  refine WC.seq ?_
  refine WC.seq ?_
  refine WC.region ?_
  refine WL.val (Val.eql rfl rfl (beq_eq_false_iff_ne.2 (by omega))) rfl ?_
  refine WL.val (Val.assignB rfl) rfl ?_
  refine WL.nil ?_
  refine WX.thenC ?_
  refine WC.condF rfl ?_
  refine WC.region ?_
  refine WL.val (Val.eql rfl rfl (beq_eq_false_iff_ne.2 (by omega))) rfl ?_
  refine WL.val (Val.assignB rfl) rfl ?_
  refine WL.nil ?_
  refine WX.thenC ?_
  refine WC.condF rfl ?_
  refine WC.seq ?_
  refine WC.region ?_
  refine WL.val (Val.eql rfl rfl (beq_eq_false_iff_ne.2 (by omega))) rfl ?_
  refine WL.val (Val.assignB rfl) rfl ?_
  refine WL.nil ?_
  refine WX.thenC ?_
  refine WC.condF rfl ?_
  refine WC.region ?_
  refine WL.val (Val.moveP rfl) rfl ?_
  refine WL.val (Val.nilCheckP rfl) rfl ?_
  refine WL.val (Val.fldAddr rfl) rfl ?_
  refine WL.stB 1 rfl rfl rfl rfl ?_
  refine WL.nil ?_
  refine WX.inNormal ?_
  apply WX.doneN (ks := [0, 0])
  case hres => exact RunRes.r0 rfl
  case hp => rfl
  case hI => first | exact Mem.le.refl _ | assumption
  refine ⟨sv1, ?_⟩
  have hw : c.w = eInt c.kind := by simp [Cm.w, Cm.tail, k1, k2, k3, k4, k5, k6, k7, k8, k9, k10, k11, k12]
  have hok : c.wok = false := by simp [Cm.wok, k1, k2, k3, k4, k5, k6, k7, k8, k9, k10, k11, k12]
  rw [hw, hok, Bool.not_false, Bool.or_true]
end Go.Proofs.YtfdeckdongonnaaDoor
