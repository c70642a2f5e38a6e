/-
  Code, the walks: the document's bytes (2): paints, styles, pieces, attributes.
-/
import Derived.Test.YtfdeckdongonnaaDoorC26
import Derived.Test.YtfdeckdongonnaaDoorSepH
namespace Go.Proofs.YtfdeckdongonnaaDoor
open Go.Sl Go.Cd
set_option maxRecDepth 100000
set_option maxHeartbeats 8000000
set_option linter.unusedVariables false
attribute [local irreducible] WC WL WX WK WA WAK Val Ctr RunRes ResIs Rd At sl box pt Exit.then Exit.inBlock bodyPost Code.wp wpList
theorem paintB (p : Pnt) (t : Value) (I : Mem) (hp : p.at_ I t) (hk : 0 ≤ p.kind ∧ p.kind ≤ 3) (hl : p.w.length ≤ 1099511627776) :
    Ctr Tryd.prog 66 [.agg (p.cs t).toArray] I [] (OwnB p.w) := by
  have hst := hp.stops
  obtain ⟨a1, q1, rfl⟩ := hp.sl
  have e1 : (eInts [p.kind]).length ≤ 10 := by rw [eInts_one]; exact eInt_len hp.kind
  refine Ctr.intro Tryd.func66 rfl rfl rfl fun E F => ?_
  refine WC.seq ?_
  refine WC.region ?_
  (refine WL.boxA rfl rfl ?_; intro _)
  refine WL.nApp ?_
  refine WL.val (Val.assignS rfl) rfl ?_
  refine WL.nil ?_
  refine WX.thenC ?_
  refine WC.seq ?_
  refine WC.region ?_
  refine WL.val (Val.fldAddr rfl) rfl ?_
  refine WL.val (Val.loadS rfl (Rd.own1 1 rfl rfl)) rfl ?_
  (refine WL.buildSlice (by with_unfolding_all exact rfl) rfl (by with_unfolding_all exact rfl) rfl ?_; intro _)
  refine WL.nApp ?_
  rename_i g g10
  refine WL.freezeBox (xs := [vi p.kind]) 2 rfl fun I10 hI10 hA10 => ?_
  refine WL.callB rfl rfl (rInts [p.kind] (.slice (some ⟨g10, 0, none⟩) 1 1) _ (litInts [p.kind] hA10 ⟨hp.kind, trivial⟩) (by omega)) rfl fun a2 q2 I11 hI11 => ?_
  have hI := hI10.trans hI11
  by_cases k1 : p.kind = 1
  · have hw : p.w = eInts [p.kind] ++ p.col.w := by simp [Pnt.w, k1, eInts_one]
    have e2 := p.col.w_len
    rw [hw]
    refine WL.nApp ?_
    refine WL.val (Val.assignS rfl) rfl ?_
    refine WL.nil ?_
    refine WX.thenC ?_
    refine WC.seq ?_
    refine WC.seq ?_
    refine WC.region ?_
    refine WL.val (Val.fldAddr rfl) rfl ?_
    refine WL.val (Val.loadS rfl (Rd.own1 1 rfl rfl)) rfl ?_
    refine WL.val (Val.eql rfl rfl (beq_iff_eq.2 (by omega))) rfl ?_
    refine WL.nil ?_
    refine WX.thenC ?_
    refine WC.condT rfl ?_
    refine WC.seq ?_
    refine WC.region ?_
    refine WL.val (Val.moveS rfl) rfl ?_
    refine WL.val (Val.fldAddr rfl) rfl ?_
    refine WL.val (Val.ldO 1 rfl rfl rfl) rfl ?_
    refine WL.callF rfl rfl (lcolor p.col _).frzB rfl fun a20 q20 I20 hI20 hB20 => ?_
    refine WL.appB 2 rfl rfl rfl hB20 rfl (by simp only [List.length_append]; omega) rfl fun a21 q21 => ?_
    refine WL.nSet ?_
    refine WL.val (Val.assignS rfl) rfl ?_
    refine WL.nil ?_
    refine WX.thenC ?_
    refine WC.ret ?_
    refine WX.thenRet ?_
    have hJ := hI.trans hI20
    apply WX.doneP (ks := [1])
    case hres => exact RunRes.r1 rfl (ResIs.tmpS rfl)
    case hI => first | exact Mem.le.refl _ | assumption
    rfl
  by_cases k0 : p.kind = 0
  · have hw : p.w = eInts [p.kind] := by simp [Pnt.w, k0, eInts_one]
    rw [hw]
    refine WL.nApp ?_
    refine WL.val (Val.assignS rfl) rfl ?_
    refine WL.nil ?_
    refine WX.thenC ?_
    refine WC.seq ?_
    refine WC.seq ?_
    refine WC.region ?_
    refine WL.val (Val.fldAddr rfl) rfl ?_
    refine WL.val (Val.loadS rfl (Rd.own1 1 rfl rfl)) rfl ?_
    refine WL.val (Val.eql rfl rfl (beq_eq_false_iff_ne.2 (by omega))) rfl ?_
    refine WL.nil ?_
    refine WX.thenC ?_
    refine WC.condF rfl ?_
    refine WC.skip ?_
    refine WX.thenC ?_
    refine WC.seq ?_
    refine WC.seq ?_
    refine WC.region ?_
    refine WL.val (Val.fldAddr rfl) rfl ?_
    refine WL.val (Val.loadS rfl (Rd.own1 1 rfl rfl)) rfl ?_
    refine WL.val (Val.eql rfl rfl (beq_iff_eq.2 (by omega))) rfl ?_
    refine WL.nil ?_
    refine WX.thenC ?_
    refine WC.condT rfl ?_
    refine WC.seq ?_
    refine WC.region ?_
    refine WL.val (Val.moveS rfl) rfl ?_
    refine WL.val (Val.assignS rfl) rfl ?_
    refine WL.nil ?_
    refine WX.thenC ?_
    refine WC.ret ?_
    refine WX.thenRet ?_
    apply WX.doneP (ks := [1])
    case hres => exact RunRes.r1 rfl (ResIs.tmpS rfl)
    case hI => first | exact Mem.le.refl _ | assumption
    rfl
  have k23 : p.kind = 2 ∨ p.kind = 3 := by omega
  have hw : p.w = (eInts [p.kind] ++ eInts [p.frm.x, p.frm.y, p.to.x, p.to.y, (p.stops.length : Int)] ++ lk Stp.w p.stops p.stops.length) := by simp [Pnt.w, k0, k1, k23, lw, Pt.w, eInts, lk_all]
  rw [hw] at hl ⊢
  have hB : ∀ k, (eInts [p.kind] ++ eInts [p.frm.x, p.frm.y, p.to.x, p.to.y, (p.stops.length : Int)] ++ lk Stp.w p.stops k).length ≤ 1099511627776 := fun k => by
    have h1 := lk_le Stp.w p.stops k
    rw [← lk_all] at h1
    simp only [List.length_append] at hl ⊢
    omega
  have hlen := stp_len p.stops
  have hb0 := hB p.stops.length
  rw [← lk_all] at hlen
  simp only [List.length_append] at hb0
  refine WL.nApp ?_
  refine WL.val (Val.assignS rfl) rfl ?_
  refine WL.nil ?_
  refine WX.thenC ?_
  refine WC.seq ?_
  refine WC.seq ?_
  refine WC.region ?_
  refine WL.val (Val.fldAddr rfl) rfl ?_
  refine WL.val (Val.loadS rfl (Rd.own1 1 rfl rfl)) rfl ?_
  refine WL.val (Val.eql rfl rfl (beq_eq_false_iff_ne.2 (by omega))) rfl ?_
  refine WL.nil ?_
  refine WX.thenC ?_
  refine WC.condF rfl ?_
  refine WC.skip ?_
  refine WX.thenC ?_
  refine WC.seq ?_
  refine WC.seq ?_
  refine WC.region ?_
  refine WL.val (Val.fldAddr rfl) rfl ?_
  refine WL.val (Val.loadS rfl (Rd.own1 1 rfl rfl)) rfl ?_
  refine WL.val (Val.eql rfl rfl (beq_eq_false_iff_ne.2 (by omega))) rfl ?_
  refine WL.nil ?_
  refine WX.thenC ?_
  refine WC.condF rfl ?_
  refine WC.skip ?_
  refine WX.thenC ?_
  refine WC.seq ?_
  refine WC.region ?_
  refine WL.val (Val.moveS rfl) rfl ?_
  refine WL.val (Val.fldAddr rfl) rfl ?_
  refine WL.val (Val.fldAddr rfl) rfl ?_
  refine WL.val (Val.loadS rfl (Rd.own1 1 rfl rfl)) rfl ?_
  refine WL.val (Val.fldAddr rfl) rfl ?_
  refine WL.val (Val.fldAddr rfl) rfl ?_
  refine WL.val (Val.loadS rfl (Rd.own1 1 rfl rfl)) rfl ?_
  refine WL.val (Val.fldAddr rfl) rfl ?_
  refine WL.val (Val.fldAddr rfl) rfl ?_
  refine WL.val (Val.loadS rfl (Rd.own1 1 rfl rfl)) rfl ?_
  refine WL.val (Val.fldAddr rfl) rfl ?_
  refine WL.val (Val.fldAddr rfl) rfl ?_
  refine WL.val (Val.loadS rfl (Rd.own1 1 rfl rfl)) rfl ?_
  refine WL.val (Val.fldAddr rfl) rfl ?_
  refine WL.val (Val.loadS rfl (Rd.own1 1 rfl rfl)) rfl ?_
  refine WL.val (Val.len rfl) rfl ?_
  (refine WL.buildSlice (by with_unfolding_all exact rfl) rfl (by with_unfolding_all exact rfl) rfl ?_; intro _)
  refine WL.nApp ?_
  rename_i g20
  refine WL.freezeBox (xs := [vi p.frm.x, vi p.frm.y, vi p.to.x, vi p.to.y, vi ((p.stops.length : Int))]) 3 rfl fun I20 hI20 hA20 => ?_
  refine WL.callF rfl rfl (rInts [p.frm.x, p.frm.y, p.to.x, p.to.y, (p.stops.length : Int)] (.slice (some ⟨g20, 0, none⟩) 5 5) _ (litInts [p.frm.x, p.frm.y, p.to.x, p.to.y, (p.stops.length : Int)] hA20 ⟨hp.frm.1, hp.frm.2, hp.to.1, hp.to.2, ⟨by omega, by omega⟩, trivial⟩) (by omega)).frzB rfl fun a21 q21 I21 hI21 hB21 => ?_
  refine WL.appB 2 rfl rfl rfl hB21 rfl (by simp only [List.length_append]; omega) rfl fun a22 q22 => ?_
  refine WL.nSet ?_
  refine WL.val (Val.assignS rfl) rfl ?_
  refine WL.nil ?_
  refine WX.thenC ?_
  refine WC.seq ?_
  refine WC.seq ?_
  refine WC.region ?_
  refine WL.val (Val.fldAddr rfl) rfl ?_
  refine WL.val (Val.loadS rfl (Rd.own1 1 rfl rfl)) rfl ?_
  refine WL.val (Val.len rfl) rfl ?_
  refine WL.val (Val.moveI rfl) rfl ?_
  refine WL.nil ?_
  refine WX.thenC ?_
  refine WC.block ?_
  have hJ := hI.trans (hI20.trans hI21)
  refine WC.loop (fun n ρ' I' L' => ∃ k : Nat, ∃ a cap, n = p.stops.length - k ∧ k ≤ p.stops.length ∧ I.le I' ∧ ρ' 3 = .slice a (eInts [p.kind] ++ eInts [p.frm.x, p.frm.y, p.to.x, p.to.y, (p.stops.length : Int)] ++ lk Stp.w p.stops k).length cap ∧ ρ' 42 = .slice a1 p.stops.length q1 ∧ ρ' 43 = vi p.stops.length ∧ ρ' 44 = vi k ∧
      L' = [F, box g 33 (p.cs (.slice a1 p.stops.length q1)), sl 5 1 (.slice a (eInts [p.kind] ++ eInts [p.frm.x, p.frm.y, p.to.x, p.to.y, (p.stops.length : Int)] ++ lk Stp.w p.stops k).length cap) (eInts [p.kind] ++ eInts [p.frm.x, p.frm.y, p.to.x, p.to.y, (p.stops.length : Int)] ++ lk Stp.w p.stops k).length ((eInts [p.kind] ++ eInts [p.frm.x, p.frm.y, p.to.x, p.to.y, (p.stops.length : Int)] ++ lk Stp.w p.stops k).map byt)])
    p.stops.length ⟨0, _, _, rfl, by omega, hJ, by rw [lk_zero, List.append_nil]; rfl, rfl, rfl, rfl, by rw [lk_zero, List.append_nil]⟩ ?_
  rintro n ρ' I5 L' ⟨k, a5, q5, rfl, hkl, hI5, h3, h42, h43, h44, rfl⟩
  rw [← upd_self h44, ← upd_self h43, ← upd_self h42, ← upd_self h3]
  clear h44 h43 h42 h3
  by_cases hkn : k < p.stops.length
  · obtain ⟨b, off, cap', cs, he, ⟨rfl, hi⟩, hA⟩ := (hst.mono hI5).get k hkn
    cases he
    have hs := lk_succ Stp.w p.stops k hkn
    have hb1 := hB (k + 1)
    have hs2 : (eInts [p.kind] ++ eInts [p.frm.x, p.frm.y, p.to.x, p.to.y, (p.stops.length : Int)] ++ lk Stp.w p.stops (k + 1)) = (eInts [p.kind] ++ eInts [p.frm.x, p.frm.y, p.to.x, p.to.y, (p.stops.length : Int)] ++ lk Stp.w p.stops k) ++ eInts [p.stops[k].pos] ++ p.stops[k].col.w := by rw [hs]; simp [Stp.w, eInts_one]
    rw [hs2] at hb1
    simp only [List.length_append] at hb1
    generalize hx : p.stops[k] = x at *
    refine WC.seq ?_
    refine WC.region ?_
    refine WL.val (Val.lss rfl rfl (decide_eq_true (by omega))) rfl ?_
    refine WL.nil ?_
    refine WX.thenC ?_
    refine WC.seq ?_
    refine WC.condT rfl ?_
    refine WC.skip ?_
    refine WX.thenC ?_
    refine WC.seq ?_
    refine WC.block ?_
    refine WC.seq ?_
    refine WC.region ?_
    refine WL.val (Val.indexAddr rfl rfl (by omega) (by omega)) rfl ?_
    refine WL.val (Val.loadI rfl (by assumption) rfl) rfl ?_
    (refine WL.alloc rfl ?_; intro _)
    refine WL.nApp ?_
    refine WL.stA 3 rfl rfl rfl rfl ?_
    refine WL.nil ?_
    refine WX.thenC ?_
    refine WC.drawK 999 I5 [3] rfl (by kernel_rfl) rfl rfl ?_
    refine WA.take 0 rfl (by kernel_rfl) rfl (fun w h => (h.sub [3] rfl)) (Val.moveS rfl) rfl ?_
    refine WA.take 1 rfl (by kernel_rfl) rfl (fun w h => (h.sub [3] rfl)) (Val.fldAddr rfl) rfl ?_
    refine WA.take 2 rfl (by kernel_rfl) rfl (fun w h => (h.sub [3] rfl)) (Val.loadS rfl (Rd.own1 0 rfl rfl)) rfl ?_
    refine WA.take 6 rfl (by kernel_rfl) rfl (fun w h => (h.sub [3] rfl)) (Val.fldAddr rfl) rfl ?_
    refine WA.take 7 rfl (by kernel_rfl) rfl (fun w h => (h.sub [3] rfl)) (Val.ldO 0 rfl rfl rfl) rfl ?_
    refine WA.eff1 (i := 3) (by kernel_rfl) rfl rfl ?_
    (refine WL.buildSlice (by with_unfolding_all exact rfl) rfl (by with_unfolding_all exact rfl) rfl ?_; intro _)
    rename_i g30
    refine WL.nApp ?_
    refine WL.freezeBox (xs := [vi x.pos]) 4 rfl fun I30 hI30 hA30 => ?_
    refine WL.nil ?_
    refine WK.anyStep (fun w h => (h.sub [3] rfl).less (hI30)) ?_
    refine WA.eff1 (i := 4) (by kernel_rfl) rfl rfl ?_
    refine WL.callF rfl rfl (rInts [x.pos] (.slice (some ⟨g30, 0, none⟩) 1 1) _ (litInts [x.pos] hA30 ⟨hi, trivial⟩) (by omega)).frzB rfl fun a31 q31 I31 hI31 hB31 => ?_
    refine WL.nil ?_
    refine WK.anyStep (fun w h => (h.sub [3] rfl).less (hI30.trans hI31)) ?_
    refine WA.eff1 (i := 5) (by kernel_rfl) rfl rfl ?_
    refine WL.appB 2 rfl rfl rfl hB31 rfl (by simp only [List.length_append]; omega) rfl fun a32 q32 => ?_
    refine WL.nSet ?_
    refine WL.nil ?_
    refine WK.anyStep (fun w h => (h.sub [3] rfl).less (hI30.trans hI31)) ?_
    refine WA.eff1 (i := 8) (by kernel_rfl) rfl rfl ?_
    refine WL.callF rfl rfl (lcolor x.col _).frzB rfl fun a33 q33 I33 hI33 hB33 => ?_
    refine WL.nil ?_
    refine WK.anyStep (fun w h => (h.sub [3] rfl).less ((hI30.trans hI31).trans hI33)) ?_
    refine WA.eff1 (i := 9) (by kernel_rfl) rfl rfl ?_
    refine WL.appB 2 rfl rfl rfl hB33 rfl (by simp only [List.length_append]; omega) rfl fun a34 q34 => ?_
    refine WL.nSet ?_
    refine WL.nil ?_
    refine WK.anyStep (fun w h => (h.sub [3] rfl).less ((hI30.trans hI31).trans hI33)) ?_
    refine WA.take 10 rfl (by kernel_rfl) rfl (fun w h => (h.sub [3] rfl).less ((hI30.trans hI31).trans hI33)) (Val.assignS rfl) rfl ?_
    refine WA.done (by kernel_rfl) ?_
    refine WX.inNormal ?_
    refine WX.thenC ?_
    refine WC.region ?_
    refine WL.val (Val.add rfl rfl (wrap_i64 (by omega) (by omega))) rfl ?_
    refine WL.val (Val.moveI rfl) rfl ?_
    refine WL.nil ?_
    refine WX.conv (fun w h => h.sub [0, 0, 0] rfl) ?_
    exact WX.thenK (WK.round (p.stops.length - (k + 1)) (by omega) ⟨k + 1, _, _, rfl, by omega, hI5.trans ((hI30.trans hI31).trans hI33), by rw [hs2]; rfl, rfl, rfl, rfl, by rw [hs2]⟩)
  · skip
    refine WC.seq ?_
    refine WC.region ?_
    refine WL.val (Val.lss rfl rfl (decide_eq_false (by omega))) rfl ?_
    refine WL.nil ?_
    refine WX.thenC ?_
    refine WC.seq ?_
    refine WC.condF rfl ?_
    refine WC.exit ?_
    refine WX.thenExit ?_
    refine WX.thenExit ?_
    refine WX.inHit ?_
    refine WX.thenC ?_
    refine WC.seq ?_
    refine WC.region ?_
    refine WL.val (Val.moveS rfl) rfl ?_
    refine WL.val (Val.assignS rfl) rfl ?_
    refine WL.nil ?_
    refine WX.thenC ?_
    refine WC.ret ?_
    apply WX.doneP (ks := [1])
    case hres => exact RunRes.r1 rfl (ResIs.tmpS rfl)
    case hI => first | exact Mem.le.refl _ | assumption
    obtain rfl : k = p.stops.length := by omega
    rfl
theorem styleB (s : Sty) (t u d : Value) (I : Mem) (hs : s.at_ I t u d) (hp : s.pl) (hl : s.w.length ≤ 1099511627776) :
    Ctr Tryd.prog 35 [.agg (s.cs t u d).toArray] I [] (OwnB s.w) := by
  have hk1 : 0 ≤ s.fill.kind ∧ s.fill.kind ≤ 3 := by have := hp.1; unfold Pnt.pl at this; omega
  have hk2 : 0 ≤ s.pen.kind ∧ s.pen.kind ≤ 3 := by have := hp.2.1; unfold Pnt.pl at this; omega
  have hd8 := hp.2.2
  have hs0 := hs
  obtain ⟨a1, c1, a2, c2, a3, c3, rfl, rfl, rfl⟩ := hs.sl
  have hw : s.w = s.fill.w ++ s.pen.w ++ eInts [s.rule, s.half, s.cap, (s.dash.length : Int)] ++ eInts s.dash ++ eInts [s.phase, s.opac, s.mode] := by simp [Sty.w, lw, eInts]
  rw [hw] at hl ⊢
  simp only [List.length_append] at hl
  refine Ctr.intro Tryd.func35 rfl rfl rfl fun E F => ?_
  refine WC.seq ?_
  refine WC.region ?_
  (refine WL.boxA rfl rfl ?_; intro _)
  refine WL.nApp ?_
  refine WL.val (Val.assignS rfl) rfl ?_
  refine WL.nil ?_
  refine WX.thenC ?_
  refine WC.seq ?_
  rename_i g
  refine WC.drawK 999 I [1] rfl (by kernel_rfl) rfl rfl ?_
  refine WA.take 0 rfl (by kernel_rfl) rfl (fun w h => (h.sub [1] rfl)) (Val.fldAddr rfl) rfl ?_
  refine WA.take 1 rfl (by kernel_rfl) rfl (fun w h => (h.sub [1] rfl)) (Val.ldO 0 rfl rfl rfl) rfl ?_
  refine WA.take 3 rfl (by kernel_rfl) rfl (fun w h => (h.sub [1] rfl)) (Val.fldAddr rfl) rfl ?_
  refine WA.take 4 rfl (by kernel_rfl) rfl (fun w h => (h.sub [1] rfl)) (Val.ldO 0 rfl rfl rfl) rfl ?_
  refine WA.eff1 (i := 2) (by kernel_rfl) rfl rfl ?_
  refine WL.callB rfl rfl (paintB s.fill _ _ hs.fill hk1 (by omega)) rfl fun a20 q20 I20 hI20 => ?_
  refine WL.nApp ?_
  refine WL.nil ?_
  refine WK.anyStep (fun w h => (h.sub [1] rfl).less (hI20)) ?_
  refine WA.eff1 (i := 5) (by kernel_rfl) rfl rfl ?_
  refine WL.callF rfl rfl (paintB s.pen _ _ (hs.pen.mono hI20) hk2 (by omega)).frzB rfl fun a21 q21 I21 hI21 hB21 => ?_
  refine WL.nil ?_
  refine WK.anyStep (fun w h => (h.sub [1] rfl).less (hI20.trans hI21)) ?_
  refine WA.eff1 (i := 6) (by kernel_rfl) rfl rfl ?_
  refine WL.appB 2 rfl rfl rfl hB21 rfl (by simp only [List.length_append]; omega) rfl fun a22 q22 => ?_
  refine WL.nSet ?_
  refine WL.nil ?_
  refine WK.anyStep (fun w h => (h.sub [1] rfl).less (hI20.trans hI21)) ?_
  refine WA.take 7 rfl (by kernel_rfl) rfl (fun w h => (h.sub [1] rfl).less (hI20.trans hI21)) (Val.assignS rfl) rfl ?_
  refine WA.done (by kernel_rfl) ?_
  refine WX.thenC ?_
  refine WC.seq ?_
  refine WC.region ?_
  refine WL.val (Val.moveS rfl) rfl ?_
  refine WL.val (Val.fldAddr rfl) rfl ?_
  refine WL.val (Val.loadS rfl (Rd.own1 1 rfl rfl)) rfl ?_
  refine WL.val (Val.fldAddr rfl) rfl ?_
  refine WL.val (Val.loadS rfl (Rd.own1 1 rfl rfl)) rfl ?_
  refine WL.val (Val.fldAddr rfl) rfl ?_
  refine WL.val (Val.loadS rfl (Rd.own1 1 rfl rfl)) rfl ?_
  refine WL.val (Val.fldAddr rfl) rfl ?_
  refine WL.val (Val.fldAddr rfl) rfl ?_
  refine WL.val (Val.loadS rfl (Rd.own1 1 rfl rfl)) rfl ?_
  refine WL.val (Val.len rfl) rfl ?_
  (refine WL.buildSlice (by with_unfolding_all exact rfl) rfl (by with_unfolding_all exact rfl) rfl ?_; intro _)
  refine WL.nApp ?_
  rename_i g23
  refine WL.freezeBox (xs := [vi s.rule, vi s.half, vi s.cap, vi ((s.dash.length : Int))]) 3 rfl fun I23 hI23 hA23 => ?_
  refine WL.callF rfl rfl (rInts [s.rule, s.half, s.cap, (s.dash.length : Int)] (.slice (some ⟨g23, 0, none⟩) 4 4) _ (litInts [s.rule, s.half, s.cap, (s.dash.length : Int)] hA23 ⟨hs.rule, hs.half, hs.cap, ⟨by omega, by omega⟩, trivial⟩) (by omega)).frzB rfl fun a24 q24 I24 hI24 hB24 => ?_
  refine WL.appB 2 rfl rfl rfl hB24 rfl (by simp only [List.length_append]; omega) rfl fun a25 q25 => ?_
  refine WL.nSet ?_
  refine WL.val (Val.assignS rfl) rfl ?_
  refine WL.nil ?_
  refine WX.thenC ?_
  refine WC.seq ?_
  refine WC.region ?_
  refine WL.val (Val.moveS rfl) rfl ?_
  refine WL.val (Val.fldAddr rfl) rfl ?_
  refine WL.val (Val.fldAddr rfl) rfl ?_
  refine WL.val (Val.loadS rfl (Rd.own1 1 rfl rfl)) rfl ?_
  refine WL.callF rfl rfl (rInts s.dash _ _ (hs.dash.mono (((hI20.trans hI21).trans hI23).trans hI24)) (by omega)).frzB rfl fun a26 q26 I26 hI26 hB26 => ?_
  refine WL.appB 2 rfl rfl rfl hB26 rfl (by simp only [List.length_append]; omega) rfl fun a27 q27 => ?_
  refine WL.nSet ?_
  refine WL.val (Val.assignS rfl) rfl ?_
  refine WL.nil ?_
  refine WX.thenC ?_
  refine WC.seq ?_
  refine WC.region ?_
  refine WL.val (Val.moveS rfl) rfl ?_
  refine WL.val (Val.fldAddr rfl) rfl ?_
  refine WL.val (Val.fldAddr rfl) rfl ?_
  refine WL.val (Val.loadS rfl (Rd.own1 1 rfl rfl)) rfl ?_
  refine WL.val (Val.fldAddr rfl) rfl ?_
  refine WL.val (Val.loadS rfl (Rd.own1 1 rfl rfl)) rfl ?_
  refine WL.val (Val.fldAddr rfl) rfl ?_
  refine WL.val (Val.loadS rfl (Rd.own1 1 rfl rfl)) rfl ?_
  (refine WL.buildSlice (by with_unfolding_all exact rfl) rfl (by with_unfolding_all exact rfl) rfl ?_; intro _)
  refine WL.nApp ?_
  rename_i g28
  refine WL.freezeBox (xs := [vi s.phase, vi s.opac, vi s.mode]) 3 rfl fun I28 hI28 hA28 => ?_
  refine WL.callF rfl rfl (rInts [s.phase, s.opac, s.mode] (.slice (some ⟨g28, 0, none⟩) 3 3) _ (litInts [s.phase, s.opac, s.mode] hA28 ⟨hs.phase, hs.opac, hs.mode, trivial⟩) (by omega)).frzB rfl fun a29 q29 I29 hI29 hB29 => ?_
  refine WL.appB 2 rfl rfl rfl hB29 rfl (by simp only [List.length_append]; omega) rfl fun a30 q30 => ?_
  refine WL.nSet ?_
  refine WL.val (Val.assignS rfl) rfl ?_
  refine WL.nil ?_
  refine WX.thenC ?_
  refine WC.ret ?_
  have hJ := (((((hI20.trans hI21).trans hI23).trans hI24).trans hI26).trans hI28).trans hI29
  apply WX.doneP (ks := [1])
  case hres => exact RunRes.r1 rfl (ResIs.tmpS rfl)
  case hI => first | exact Mem.le.refl _ | assumption
  rfl
theorem segB (s : Sg) (I : Mem) (hN : NeedAt I) (hs : s.ok) :
    Ctr Tryd.prog 37 [.agg s.cs.toArray] I [] (OwnB s.w) := by
  have hn3 := need_le s.kind
  have e1 : (eInts [s.kind]).length ≤ 10 := by rw [eInts_one]; exact eInt_len hs.1
  have w0 := Pt.w_len hs.2.1
  have w1 := Pt.w_len hs.2.2.1
  have w2 := Pt.w_len hs.2.2.2
  have hw : s.w = (eInts [s.kind] ++ lk Pt.w [s.p0, s.p1, s.p2] (need s.kind)) := by simp [Sg.w, lk, eInts_one]
  rw [hw]
  refine Ctr.intro Tryd.func37 rfl rfl rfl fun E F => ?_
  refine WC.seq ?_
  refine WC.region ?_
  (refine WL.boxA rfl rfl ?_; intro _)
  refine WL.nApp ?_
  refine WL.val (Val.assignS rfl) rfl ?_
  refine WL.nil ?_
  refine WX.thenC ?_
  refine WC.seq ?_
  refine WC.region ?_
  refine WL.val (Val.fldAddr rfl) rfl ?_
  refine WL.val (Val.loadS rfl (Rd.own1 1 rfl rfl)) rfl ?_
  (refine WL.buildSlice (by with_unfolding_all exact rfl) rfl (by with_unfolding_all exact rfl) rfl ?_; intro _)
  refine WL.nApp ?_
  rename_i g g10
  refine WL.freezeBox (xs := [vi s.kind]) 2 rfl fun I10 hI10 hA10 => ?_
  refine WL.callB rfl rfl (rInts [s.kind] (.slice (some ⟨g10, 0, none⟩) 1 1) _ (litInts [s.kind] hA10 ⟨hs.1, trivial⟩) (by omega)) rfl fun a2 q2 I11 hI11 => ?_
  have hI := hI10.trans hI11
  refine WL.nApp ?_
  refine WL.val (Val.assignS rfl) rfl ?_
  refine WL.nil ?_
  refine WX.thenC ?_
  refine WC.seq ?_
  refine WC.seq ?_
  refine WC.region ?_
  refine WL.val (Val.fldAddr rfl) rfl ?_
  refine WL.val (Val.loadS rfl (Rd.own1 1 rfl rfl)) rfl ?_
  refine WL.callS rfl rfl (need_ctr s.kind _ (hN.mono hI)) rfl ?_
  rintro _ rfl
  refine WL.val (Val.moveI rfl) rfl ?_
  refine WL.nil ?_
  refine WX.thenC ?_
  refine WC.block ?_
  refine WC.loop (fun n ρ' I' L' => ∃ k : Nat, ∃ a cap, n = need s.kind - k ∧ k ≤ need s.kind ∧ I.le I' ∧ ρ' 1 = ptr g ∧ ρ' 3 = .slice a (eInts [s.kind] ++ lk Pt.w [s.p0, s.p1, s.p2] k).length cap ∧ ρ' 11 = vi (need s.kind) ∧ ρ' 12 = vi k ∧
      L' = [F, box g 44 s.cs, sl 5 1 (.slice a (eInts [s.kind] ++ lk Pt.w [s.p0, s.p1, s.p2] k).length cap) (eInts [s.kind] ++ lk Pt.w [s.p0, s.p1, s.p2] k).length ((eInts [s.kind] ++ lk Pt.w [s.p0, s.p1, s.p2] k).map byt)])
    (need s.kind) ⟨0, _, _, rfl, by omega, hI, rfl, by rw [lk_zero, List.append_nil]; rfl, rfl, rfl, by rw [lk_zero, List.append_nil]⟩ ?_
  rintro n ρ' I5 L' ⟨k, a5, q5, rfl, hkl, hI5, h1, h3, h11, h12, rfl⟩
  rw [← upd_self h12, ← upd_self h11, ← upd_self h3, ← upd_self h1]
  clear h12 h11 h3 h1
  by_cases hkn : k < need s.kind
  · have hk3 : k = 0 ∨ k = 1 ∨ k = 2 := by omega
    rcases hk3 with rfl | rfl | rfl
    · have hs2 : (eInts [s.kind] ++ lk Pt.w [s.p0, s.p1, s.p2] 1) = (eInts [s.kind] ++ lk Pt.w [s.p0, s.p1, s.p2] 0) ++ eInts [s.p0.x, s.p0.y] := by rw [lk_succ Pt.w _ 0 (by simp)]; simp [Pt.w, eInts]
      have hbd : (eInts [s.kind] ++ lk Pt.w [s.p0, s.p1, s.p2] 0).length ≤ 100 := by
        unfold lk
        simp
        omega
      have hq2 : (eInts [s.p0.x, s.p0.y]).length ≤ 20 := by
        have : eInts [s.p0.x, s.p0.y] = s.p0.w := by simp [Pt.w, eInts]
        rw [this]; omega
      rw [List.length_append] at hbd
      refine WC.seq ?_
      refine WC.region ?_
      refine WL.val (Val.lss rfl rfl (decide_eq_true (by omega))) rfl ?_
      refine WL.nil ?_
      refine WX.thenC ?_
      refine WC.seq ?_
      refine WC.condT rfl ?_
      refine WC.skip ?_
      refine WX.thenC ?_
      refine WC.seq ?_
      refine WC.block ?_
      refine WC.seq ?_
      refine WC.region ?_
      refine WL.val (Val.moveI rfl) rfl ?_
      refine WL.val (Val.assignI rfl) rfl ?_
      refine WL.nil ?_
      refine WX.thenC ?_
      refine WC.drawK 999 I5 [1] rfl (by kernel_rfl) rfl rfl ?_
      refine WA.take 0 rfl (by kernel_rfl) rfl (fun w h => (h.sub [1] rfl)) (Val.moveS rfl) rfl ?_
      refine WA.take 1 rfl (by kernel_rfl) rfl (fun w h => (h.sub [1] rfl)) (Val.moveI rfl) rfl ?_
      refine WA.take 2 rfl (by kernel_rfl) rfl (fun w h => (h.sub [1] rfl)) (Val.fldAddr rfl) rfl ?_
      refine WA.take 3 rfl (by kernel_rfl) rfl (fun w h => (h.sub [1] rfl)) (Val.indexAddrA rfl rfl (by omega) (by omega)) rfl ?_
      refine WA.take 4 rfl (by kernel_rfl) rfl (fun w h => (h.sub [1] rfl)) (Val.fldAddr rfl) rfl ?_
      refine WA.take 5 rfl (by kernel_rfl) rfl (fun w h => (h.sub [1] rfl)) (Val.loadS rfl (Rd.own1 0 rfl rfl)) rfl ?_
      refine WA.take 6 rfl (by kernel_rfl) rfl (fun w h => (h.sub [1] rfl)) (Val.moveI rfl) rfl ?_
      refine WA.take 7 rfl (by kernel_rfl) rfl (fun w h => (h.sub [1] rfl)) (Val.fldAddr rfl) rfl ?_
      refine WA.take 8 rfl (by kernel_rfl) rfl (fun w h => (h.sub [1] rfl)) (Val.indexAddrA rfl rfl (by omega) (by omega)) rfl ?_
      refine WA.take 9 rfl (by kernel_rfl) rfl (fun w h => (h.sub [1] rfl)) (Val.fldAddr rfl) rfl ?_
      refine WA.take 10 rfl (by kernel_rfl) rfl (fun w h => (h.sub [1] rfl)) (Val.loadS rfl (Rd.own1 0 rfl rfl)) rfl ?_
      refine WA.eff1 (i := 11) (by kernel_rfl) rfl rfl ?_
      (refine WL.buildSlice (by with_unfolding_all exact rfl) rfl (by with_unfolding_all exact rfl) rfl ?_; intro _)
      rename_i g30
      refine WL.nApp ?_
      refine WL.freezeBox (xs := [vi s.p0.x, vi s.p0.y]) 3 rfl fun I30 hI30 hA30 => ?_
      refine WL.nil ?_
      refine WK.anyStep (fun w h => (h.sub [1] rfl).less (hI30)) ?_
      refine WA.eff1 (i := 12) (by kernel_rfl) rfl rfl ?_
      refine WL.callF rfl rfl (rInts [s.p0.x, s.p0.y] (.slice (some ⟨g30, 0, none⟩) 2 2) _ (litInts [s.p0.x, s.p0.y] hA30 ⟨hs.2.1.1, hs.2.1.2, trivial⟩) (by omega)).frzB rfl fun a31 q31 I31 hI31 hB31 => ?_
      refine WL.nil ?_
      refine WK.anyStep (fun w h => (h.sub [1] rfl).less (hI30.trans hI31)) ?_
      refine WA.eff1 (i := 13) (by kernel_rfl) rfl rfl ?_
      refine WL.appB 2 rfl rfl rfl hB31 rfl (by simp only [List.length_append]; omega) rfl fun a32 q32 => ?_
      refine WL.nSet ?_
      refine WL.nil ?_
      refine WK.anyStep (fun w h => (h.sub [1] rfl).less (hI30.trans hI31)) ?_
      refine WA.take 14 rfl (by kernel_rfl) rfl (fun w h => (h.sub [1] rfl).less (hI30.trans hI31)) (Val.assignS rfl) rfl ?_
      refine WA.done (by kernel_rfl) ?_
      refine WX.inNormal ?_
      refine WX.thenC ?_
      refine WC.region ?_
      refine WL.val (Val.add rfl rfl (wrap_i64 (by omega) (by omega))) rfl ?_
      refine WL.val (Val.moveI rfl) rfl ?_
      refine WL.nil ?_
      exact WX.thenK (WK.round (need s.kind - 1) (by omega) ⟨1, _, _, rfl, by omega, hI5.trans (hI30.trans hI31), rfl, by rw [hs2]; rfl, rfl, rfl, by rw [hs2]⟩)
    · have hs2 : (eInts [s.kind] ++ lk Pt.w [s.p0, s.p1, s.p2] 2) = (eInts [s.kind] ++ lk Pt.w [s.p0, s.p1, s.p2] 1) ++ eInts [s.p1.x, s.p1.y] := by rw [lk_succ Pt.w _ 1 (by simp)]; simp [Pt.w, eInts]
      have hbd : (eInts [s.kind] ++ lk Pt.w [s.p0, s.p1, s.p2] 1).length ≤ 100 := by
        unfold lk
        simp
        omega
      have hq2 : (eInts [s.p1.x, s.p1.y]).length ≤ 20 := by
        have : eInts [s.p1.x, s.p1.y] = s.p1.w := by simp [Pt.w, eInts]
        rw [this]; omega
      rw [List.length_append] at hbd
      refine WC.seq ?_
      refine WC.region ?_
      refine WL.val (Val.lss rfl rfl (decide_eq_true (by omega))) rfl ?_
      refine WL.nil ?_
      refine WX.thenC ?_
      refine WC.seq ?_
      refine WC.condT rfl ?_
      refine WC.skip ?_
      refine WX.thenC ?_
      refine WC.seq ?_
      refine WC.block ?_
      refine WC.seq ?_
      refine WC.region ?_
      refine WL.val (Val.moveI rfl) rfl ?_
      refine WL.val (Val.assignI rfl) rfl ?_
      refine WL.nil ?_
      refine WX.thenC ?_
      refine WC.drawK 999 I5 [1] rfl (by kernel_rfl) rfl rfl ?_
      refine WA.take 0 rfl (by kernel_rfl) rfl (fun w h => (h.sub [1] rfl)) (Val.moveS rfl) rfl ?_
      refine WA.take 1 rfl (by kernel_rfl) rfl (fun w h => (h.sub [1] rfl)) (Val.moveI rfl) rfl ?_
      refine WA.take 2 rfl (by kernel_rfl) rfl (fun w h => (h.sub [1] rfl)) (Val.fldAddr rfl) rfl ?_
      refine WA.take 3 rfl (by kernel_rfl) rfl (fun w h => (h.sub [1] rfl)) (Val.indexAddrA rfl rfl (by omega) (by omega)) rfl ?_
      refine WA.take 4 rfl (by kernel_rfl) rfl (fun w h => (h.sub [1] rfl)) (Val.fldAddr rfl) rfl ?_
      refine WA.take 5 rfl (by kernel_rfl) rfl (fun w h => (h.sub [1] rfl)) (Val.loadS rfl (Rd.own1 0 rfl rfl)) rfl ?_
      refine WA.take 6 rfl (by kernel_rfl) rfl (fun w h => (h.sub [1] rfl)) (Val.moveI rfl) rfl ?_
      refine WA.take 7 rfl (by kernel_rfl) rfl (fun w h => (h.sub [1] rfl)) (Val.fldAddr rfl) rfl ?_
      refine WA.take 8 rfl (by kernel_rfl) rfl (fun w h => (h.sub [1] rfl)) (Val.indexAddrA rfl rfl (by omega) (by omega)) rfl ?_
      refine WA.take 9 rfl (by kernel_rfl) rfl (fun w h => (h.sub [1] rfl)) (Val.fldAddr rfl) rfl ?_
      refine WA.take 10 rfl (by kernel_rfl) rfl (fun w h => (h.sub [1] rfl)) (Val.loadS rfl (Rd.own1 0 rfl rfl)) rfl ?_
      refine WA.eff1 (i := 11) (by kernel_rfl) rfl rfl ?_
      (refine WL.buildSlice (by with_unfolding_all exact rfl) rfl (by with_unfolding_all exact rfl) rfl ?_; intro _)
      rename_i g30
      refine WL.nApp ?_
      refine WL.freezeBox (xs := [vi s.p1.x, vi s.p1.y]) 3 rfl fun I30 hI30 hA30 => ?_
      refine WL.nil ?_
      refine WK.anyStep (fun w h => (h.sub [1] rfl).less (hI30)) ?_
      refine WA.eff1 (i := 12) (by kernel_rfl) rfl rfl ?_
      refine WL.callF rfl rfl (rInts [s.p1.x, s.p1.y] (.slice (some ⟨g30, 0, none⟩) 2 2) _ (litInts [s.p1.x, s.p1.y] hA30 ⟨hs.2.2.1.1, hs.2.2.1.2, trivial⟩) (by omega)).frzB rfl fun a31 q31 I31 hI31 hB31 => ?_
      refine WL.nil ?_
      refine WK.anyStep (fun w h => (h.sub [1] rfl).less (hI30.trans hI31)) ?_
      refine WA.eff1 (i := 13) (by kernel_rfl) rfl rfl ?_
      refine WL.appB 2 rfl rfl rfl hB31 rfl (by simp only [List.length_append]; omega) rfl fun a32 q32 => ?_
      refine WL.nSet ?_
      refine WL.nil ?_
      refine WK.anyStep (fun w h => (h.sub [1] rfl).less (hI30.trans hI31)) ?_
      refine WA.take 14 rfl (by kernel_rfl) rfl (fun w h => (h.sub [1] rfl).less (hI30.trans hI31)) (Val.assignS rfl) rfl ?_
      refine WA.done (by kernel_rfl) ?_
      refine WX.inNormal ?_
      refine WX.thenC ?_
      refine WC.region ?_
      refine WL.val (Val.add rfl rfl (wrap_i64 (by omega) (by omega))) rfl ?_
      refine WL.val (Val.moveI rfl) rfl ?_
      refine WL.nil ?_
      exact WX.thenK (WK.round (need s.kind - 2) (by omega) ⟨2, _, _, rfl, by omega, hI5.trans (hI30.trans hI31), rfl, by rw [hs2]; rfl, rfl, rfl, by rw [hs2]⟩)
    · have hs2 : (eInts [s.kind] ++ lk Pt.w [s.p0, s.p1, s.p2] 3) = (eInts [s.kind] ++ lk Pt.w [s.p0, s.p1, s.p2] 2) ++ eInts [s.p2.x, s.p2.y] := by rw [lk_succ Pt.w _ 2 (by simp)]; simp [Pt.w, eInts]
      have hbd : (eInts [s.kind] ++ lk Pt.w [s.p0, s.p1, s.p2] 2).length ≤ 100 := by
        unfold lk
        simp
        omega
      have hq2 : (eInts [s.p2.x, s.p2.y]).length ≤ 20 := by
        have : eInts [s.p2.x, s.p2.y] = s.p2.w := by simp [Pt.w, eInts]
        rw [this]; omega
      rw [List.length_append] at hbd
      refine WC.seq ?_
      refine WC.region ?_
      refine WL.val (Val.lss rfl rfl (decide_eq_true (by omega))) rfl ?_
      refine WL.nil ?_
      refine WX.thenC ?_
      refine WC.seq ?_
      refine WC.condT rfl ?_
      refine WC.skip ?_
      refine WX.thenC ?_
      refine WC.seq ?_
      refine WC.block ?_
      refine WC.seq ?_
      refine WC.region ?_
      refine WL.val (Val.moveI rfl) rfl ?_
      refine WL.val (Val.assignI rfl) rfl ?_
      refine WL.nil ?_
      refine WX.thenC ?_
      refine WC.drawK 999 I5 [1] rfl (by kernel_rfl) rfl rfl ?_
      refine WA.take 0 rfl (by kernel_rfl) rfl (fun w h => (h.sub [1] rfl)) (Val.moveS rfl) rfl ?_
      refine WA.take 1 rfl (by kernel_rfl) rfl (fun w h => (h.sub [1] rfl)) (Val.moveI rfl) rfl ?_
      refine WA.take 2 rfl (by kernel_rfl) rfl (fun w h => (h.sub [1] rfl)) (Val.fldAddr rfl) rfl ?_
      refine WA.take 3 rfl (by kernel_rfl) rfl (fun w h => (h.sub [1] rfl)) (Val.indexAddrA rfl rfl (by omega) (by omega)) rfl ?_
      refine WA.take 4 rfl (by kernel_rfl) rfl (fun w h => (h.sub [1] rfl)) (Val.fldAddr rfl) rfl ?_
      refine WA.take 5 rfl (by kernel_rfl) rfl (fun w h => (h.sub [1] rfl)) (Val.loadS rfl (Rd.own1 0 rfl rfl)) rfl ?_
      refine WA.take 6 rfl (by kernel_rfl) rfl (fun w h => (h.sub [1] rfl)) (Val.moveI rfl) rfl ?_
      refine WA.take 7 rfl (by kernel_rfl) rfl (fun w h => (h.sub [1] rfl)) (Val.fldAddr rfl) rfl ?_
      refine WA.take 8 rfl (by kernel_rfl) rfl (fun w h => (h.sub [1] rfl)) (Val.indexAddrA rfl rfl (by omega) (by omega)) rfl ?_
      refine WA.take 9 rfl (by kernel_rfl) rfl (fun w h => (h.sub [1] rfl)) (Val.fldAddr rfl) rfl ?_
      refine WA.take 10 rfl (by kernel_rfl) rfl (fun w h => (h.sub [1] rfl)) (Val.loadS rfl (Rd.own1 0 rfl rfl)) rfl ?_
      refine WA.eff1 (i := 11) (by kernel_rfl) rfl rfl ?_
      (refine WL.buildSlice (by with_unfolding_all exact rfl) rfl (by with_unfolding_all exact rfl) rfl ?_; intro _)
      rename_i g30
      refine WL.nApp ?_
      refine WL.freezeBox (xs := [vi s.p2.x, vi s.p2.y]) 3 rfl fun I30 hI30 hA30 => ?_
      refine WL.nil ?_
      refine WK.anyStep (fun w h => (h.sub [1] rfl).less (hI30)) ?_
      refine WA.eff1 (i := 12) (by kernel_rfl) rfl rfl ?_
      refine WL.callF rfl rfl (rInts [s.p2.x, s.p2.y] (.slice (some ⟨g30, 0, none⟩) 2 2) _ (litInts [s.p2.x, s.p2.y] hA30 ⟨hs.2.2.2.1, hs.2.2.2.2, trivial⟩) (by omega)).frzB rfl fun a31 q31 I31 hI31 hB31 => ?_
      refine WL.nil ?_
      refine WK.anyStep (fun w h => (h.sub [1] rfl).less (hI30.trans hI31)) ?_
      refine WA.eff1 (i := 13) (by kernel_rfl) rfl rfl ?_
      refine WL.appB 2 rfl rfl rfl hB31 rfl (by simp only [List.length_append]; omega) rfl fun a32 q32 => ?_
      refine WL.nSet ?_
      refine WL.nil ?_
      refine WK.anyStep (fun w h => (h.sub [1] rfl).less (hI30.trans hI31)) ?_
      refine WA.take 14 rfl (by kernel_rfl) rfl (fun w h => (h.sub [1] rfl).less (hI30.trans hI31)) (Val.assignS rfl) rfl ?_
      refine WA.done (by kernel_rfl) ?_
      refine WX.inNormal ?_
      refine WX.thenC ?_
      refine WC.region ?_
      refine WL.val (Val.add rfl rfl (wrap_i64 (by omega) (by omega))) rfl ?_
      refine WL.val (Val.moveI rfl) rfl ?_
      refine WL.nil ?_
      exact WX.thenK (WK.round (need s.kind - 3) (by omega) ⟨3, _, _, rfl, by omega, hI5.trans (hI30.trans hI31), rfl, by rw [hs2]; rfl, rfl, rfl, by rw [hs2]⟩)
  · skip
    refine WC.seq ?_
    refine WC.region ?_
    refine WL.val (Val.lss rfl rfl (decide_eq_false (by omega))) rfl ?_
    refine WL.nil ?_
    refine WX.thenC ?_
    refine WC.seq ?_
    refine WC.condF rfl ?_
    refine WC.exit ?_
    refine WX.thenExit ?_
    refine WX.thenExit ?_
    refine WX.inHit ?_
    refine WX.thenC ?_
    refine WC.seq ?_
    refine WC.region ?_
    refine WL.val (Val.moveS rfl) rfl ?_
    refine WL.val (Val.assignS rfl) rfl ?_
    refine WL.nil ?_
    refine WX.thenC ?_
    refine WC.ret ?_
    apply WX.doneP (ks := [1])
    case hres => exact RunRes.r1 rfl (ResIs.tmpS rfl)
    case hI => first | exact Mem.le.refl _ | assumption
    obtain rfl : k = need s.kind := by omega
    rfl
theorem pathB (l : List Sg) (v : Value) (I : Mem) (hN : NeedAt I) (hv : LsAt Sg.rep I l v) (hl : (lw Sg.w l).length ≤ 1099511627776) :
    Ctr Tryd.prog 36 [v] I [] (OwnB (lw Sg.w l)) := by
  obtain ⟨a1, q1, rfl⟩ := hv.sl
  have hw : lw Sg.w l = (eInts [(l.length : Int)] ++ lk Sg.w l l.length) := by simp [lw, lk_all, eInts_one]
  rw [hw] at hl ⊢
  have hB : ∀ k, (eInts [(l.length : Int)] ++ lk Sg.w l k).length ≤ 1099511627776 := fun k => by
    have h1 := lk_le Sg.w l k
    rw [← lk_all] at h1
    simp only [List.length_append] at hl ⊢
    omega
  have hlen := list_len Sg.w Sg.w_pos l
  have hb0 := hB l.length
  rw [← lk_all] at hlen
  simp only [List.length_append] at hb0
  refine Ctr.intro Tryd.func36 rfl rfl rfl fun E F => ?_
  refine WC.seq ?_
  refine WC.region ?_
  refine WL.val (Val.assignS rfl) rfl ?_
  refine WL.nil ?_
  refine WX.thenC ?_
  refine WC.seq ?_
  refine WC.region ?_
  refine WL.val (Val.moveS rfl) rfl ?_
  refine WL.val (Val.len rfl) rfl ?_
  (refine WL.buildSlice (by with_unfolding_all exact rfl) rfl (by with_unfolding_all exact rfl) rfl ?_; intro _)
  refine WL.nApp ?_
  rename_i g10
  refine WL.freezeBox (xs := [vi l.length]) 1 rfl fun I10 hI10 hA10 => ?_
  refine WL.callB rfl rfl (rInts [(l.length : Int)] (.slice (some ⟨g10, 0, none⟩) 1 1) _ (litInts [(l.length : Int)] hA10 ⟨⟨by omega, by omega⟩, trivial⟩) (by omega)) rfl fun a2 q2 I11 hI11 => ?_
  have hI := hI10.trans hI11
  refine WL.nApp ?_
  refine WL.val (Val.assignS rfl) rfl ?_
  refine WL.nil ?_
  refine WX.thenC ?_
  refine WC.seq ?_
  refine WC.seq ?_
  refine WC.region ?_
  refine WL.val (Val.moveS rfl) rfl ?_
  refine WL.val (Val.len rfl) rfl ?_
  refine WL.val (Val.moveI rfl) rfl ?_
  refine WL.nil ?_
  refine WX.thenC ?_
  refine WC.block ?_
  refine WC.loop (fun n ρ' I' L' => ∃ k : Nat, ∃ a cap, n = l.length - k ∧ k ≤ l.length ∧ I.le I' ∧ ρ' 3 = .slice a (eInts [(l.length : Int)] ++ lk Sg.w l k).length cap ∧ ρ' 10 = .slice a1 l.length q1 ∧ ρ' 11 = vi l.length ∧ ρ' 12 = vi k ∧
      L' = [F, sl 5 1 (.slice a (eInts [(l.length : Int)] ++ lk Sg.w l k).length cap) (eInts [(l.length : Int)] ++ lk Sg.w l k).length ((eInts [(l.length : Int)] ++ lk Sg.w l k).map byt)])
    l.length ⟨0, _, _, rfl, by omega, hI, by rw [lk_zero, List.append_nil]; rfl, rfl, rfl, rfl, by rw [lk_zero, List.append_nil]⟩ ?_
  rintro n ρ' I5 L' ⟨k, a5, q5, rfl, hkl, hI5, h3, h10, h11, h12, rfl⟩
  rw [← upd_self h12, ← upd_self h11, ← upd_self h10, ← upd_self h3]
  clear h12 h11 h10 h3
  by_cases hkn : k < l.length
  · obtain ⟨b, off, cap', cs, he, ⟨rfl, hi⟩, hA⟩ := (hv.mono hI5).get k hkn
    cases he
    have hs2 : (eInts [(l.length : Int)] ++ lk Sg.w l (k + 1)) = (eInts [(l.length : Int)] ++ lk Sg.w l k) ++ l[k].w := by rw [lk_succ Sg.w l k hkn]; simp
    have hb1 := hB (k + 1)
    rw [hs2] at hb1
    simp only [List.length_append] at hb1
    generalize hx : l[k] = x at *
    refine WC.seq ?_
    refine WC.region ?_
    refine WL.val (Val.lss rfl rfl (decide_eq_true (by omega))) rfl ?_
    refine WL.nil ?_
    refine WX.thenC ?_
    refine WC.seq ?_
    refine WC.condT rfl ?_
    refine WC.skip ?_
    refine WX.thenC ?_
    refine WC.seq ?_
    refine WC.block ?_
    refine WC.seq ?_
    refine WC.region ?_
    refine WL.val (Val.indexAddr rfl rfl (by omega) (by omega)) rfl ?_
    refine WL.val (Val.loadI rfl (by assumption) rfl) rfl ?_
    (refine WL.alloc rfl ?_; intro _)
    refine WL.nApp ?_
    refine WL.stA 2 rfl rfl rfl rfl ?_
    refine WL.nil ?_
    refine WX.thenC ?_
    refine WC.region ?_
    refine WL.val (Val.moveS rfl) rfl ?_
    refine WL.val (Val.ldO 2 rfl rfl rfl) rfl ?_
    refine WL.callF rfl rfl (segB x _ (hN.mono hI5) hi).frzB rfl fun a30 q30 I30 hI30 hB30 => ?_
    refine WL.appB 1 rfl rfl rfl hB30 rfl (by simp only [List.length_append]; omega) rfl fun a31 q31 => ?_
    refine WL.nSet ?_
    refine WL.val (Val.assignS rfl) rfl ?_
    refine WL.nil ?_
    refine WX.inNormal ?_
    refine WX.thenC ?_
    refine WC.region ?_
    refine WL.val (Val.add rfl rfl (wrap_i64 (by omega) (by omega))) rfl ?_
    refine WL.val (Val.moveI rfl) rfl ?_
    refine WL.nil ?_
    refine WX.conv (fun w h => h.sub [0, 0] rfl) ?_
    exact WX.thenK (WK.round (l.length - (k + 1)) (by omega) ⟨k + 1, _, _, rfl, by omega, hI5.trans (hI30), by rw [hs2]; rfl, rfl, rfl, rfl, by rw [hs2]⟩)
  · skip
    refine WC.seq ?_
    refine WC.region ?_
    refine WL.val (Val.lss rfl rfl (decide_eq_false (by omega))) rfl ?_
    refine WL.nil ?_
    refine WX.thenC ?_
    refine WC.seq ?_
    refine WC.condF rfl ?_
    refine WC.exit ?_
    refine WX.thenExit ?_
    refine WX.thenExit ?_
    refine WX.inHit ?_
    refine WX.thenC ?_
    refine WC.seq ?_
    refine WC.region ?_
    refine WL.val (Val.moveS rfl) rfl ?_
    refine WL.val (Val.assignS rfl) rfl ?_
    refine WL.nil ?_
    refine WX.thenC ?_
    refine WC.ret ?_
    apply WX.doneP (ks := [0])
    case hres => exact RunRes.r1 rfl (ResIs.tmpS rfl)
    case hI => first | exact Mem.le.refl _ | assumption
    obtain rfl : k = l.length := by omega
    rfl
theorem attrB (x : Atr) (t u d q : Value) (I : Mem) (hN : NeedAt I) (hx : x.at_ I t u d q) (hp : x.pl) (hl : x.w.length ≤ 1099511627776) :
    Ctr Tryd.prog 33 [.agg (x.cs t u d q).toArray] I [] (OwnB x.w) := by
  have hx0 := hx
  obtain ⟨a1, c1, a2, c2, a3, c3, a4, c4, rfl, rfl, rfl, rfl⟩ := hx.sl
  have hw : x.w = x.mtx.w ++ x.sty.w ++ lw Sg.w x.path := rfl
  rw [hw] at hl ⊢
  simp only [List.length_append] at hl
  refine Ctr.intro Tryd.func33 rfl rfl rfl fun E F => ?_
  refine WC.seq ?_
  refine WC.region ?_
  (refine WL.boxA rfl rfl ?_; intro _)
  refine WL.nApp ?_
  refine WL.val (Val.assignS rfl) rfl ?_
  refine WL.nil ?_
  refine WX.thenC ?_
  refine WC.seq ?_
  rename_i g
  refine WC.drawK 999 I [1] rfl (by kernel_rfl) rfl rfl ?_
  refine WA.take 0 rfl (by kernel_rfl) rfl (fun w h => (h.sub [1] rfl)) (Val.fldAddr rfl) rfl ?_
  refine WA.take 1 rfl (by kernel_rfl) rfl (fun w h => (h.sub [1] rfl)) (Val.ldO 0 rfl rfl rfl) rfl ?_
  refine WA.take 3 rfl (by kernel_rfl) rfl (fun w h => (h.sub [1] rfl)) (Val.fldAddr rfl) rfl ?_
  refine WA.take 4 rfl (by kernel_rfl) rfl (fun w h => (h.sub [1] rfl)) (Val.ldO 0 rfl rfl rfl) rfl ?_
  refine WA.take 7 rfl (by kernel_rfl) rfl (fun w h => (h.sub [1] rfl)) (Val.fldAddr rfl) rfl ?_
  refine WA.take 8 rfl (by kernel_rfl) rfl (fun w h => (h.sub [1] rfl)) (Val.loadS rfl (Rd.own1 0 rfl rfl)) rfl ?_
  refine WA.eff1 (i := 2) (by kernel_rfl) rfl rfl ?_
  refine WL.callB rfl rfl (mtxB x.mtx _ hx.mtx) rfl fun a20 q20 I20 hI20 => ?_
  refine WL.nApp ?_
  refine WL.nil ?_
  refine WK.anyStep (fun w h => (h.sub [1] rfl).less (hI20)) ?_
  refine WA.eff1 (i := 5) (by kernel_rfl) rfl rfl ?_
  refine WL.callF rfl rfl (styleB x.sty _ _ _ _ (hx.sty.mono hI20) hp.1 (by omega)).frzB rfl fun a21 q21 I21 hI21 hB21 => ?_
  refine WL.nil ?_
  refine WK.anyStep (fun w h => (h.sub [1] rfl).less (hI20.trans hI21)) ?_
  refine WA.eff1 (i := 6) (by kernel_rfl) rfl rfl ?_
  refine WL.appB 2 rfl rfl rfl hB21 rfl (by simp only [List.length_append]; omega) rfl fun a22 q22 => ?_
  refine WL.nSet ?_
  refine WL.nil ?_
  refine WK.anyStep (fun w h => (h.sub [1] rfl).less (hI20.trans hI21)) ?_
  refine WA.eff1 (i := 9) (by kernel_rfl) rfl rfl ?_
  refine WL.callF rfl rfl (pathB x.path _ _ (hN.mono (hI20.trans hI21)) (hx.path.mono (hI20.trans hI21)) (by omega)).frzB rfl fun a23 q23 I23 hI23 hB23 => ?_
  refine WL.nil ?_
  refine WK.anyStep (fun w h => (h.sub [1] rfl).less ((hI20.trans hI21).trans hI23)) ?_
  refine WA.eff1 (i := 10) (by kernel_rfl) rfl rfl ?_
  refine WL.appB 2 rfl rfl rfl hB23 rfl (by simp only [List.length_append]; omega) rfl fun a24 q24 => ?_
  refine WL.nSet ?_
  refine WL.nil ?_
  refine WK.anyStep (fun w h => (h.sub [1] rfl).less ((hI20.trans hI21).trans hI23)) ?_
  refine WA.take 11 rfl (by kernel_rfl) rfl (fun w h => (h.sub [1] rfl).less ((hI20.trans hI21).trans hI23)) (Val.assignS rfl) rfl ?_
  refine WA.done (by kernel_rfl) ?_
  refine WX.thenC ?_
  refine WC.ret ?_
  have hJ := (hI20.trans hI21).trans hI23
  apply WX.doneP (ks := [1])
  case hres => exact RunRes.r1 rfl (ResIs.tmpS rfl)
  case hI => first | exact Mem.le.refl _ | assumption
  rfl
end Go.Proofs.YtfdeckdongonnaaDoor
