/-
  Code, the walks: writing paints.
-/
import Derived.Test.YtfdeckdongonnaaDoorC12
namespace Go.Cd
open Go.Sl
/-- Can a paint be written? -/
def Pnt.wok (p : Pnt) : Bool := decide (p.kind = 0 ∨ p.kind = 1 ∨ ((p.kind = 2 ∨ p.kind = 3) ∧ (p.stops.length : Int) ≤ 16))
/-- The first k things' bytes. -/
def lk {α : Type} (w : α → Bs) (l : List α) (k : Nat) : Bs := ((l.take k).map w).flatten
theorem lk_zero {α : Type} (w : α → Bs) (l : List α) : lk w l 0 = [] := by simp [lk]
theorem lk_succ {α : Type} (w : α → Bs) (l : List α) (k : Nat) (h : k < l.length) : lk w l (k + 1) = lk w l k ++ w l[k] := by
  unfold lk
  rw [List.take_succ_eq_append_getElem h, List.map_append, List.flatten_append]
  simp
theorem lk_all {α : Type} (w : α → Bs) (l : List α) : lk w l l.length = (l.map w).flatten := by simp [lk]
theorem lk_le {α : Type} (w : α → Bs) (l : List α) (k : Nat) : (lk w l k).length ≤ ((l.map w).flatten).length := by
  have : (l.map w).flatten = lk w l k ++ ((l.drop k).map w).flatten := by
    unfold lk
    rw [← List.flatten_append, ← List.map_append, List.take_append_drop]
  rw [this, List.length_append]
  omega
theorem stp_len : ∀ l : List Stp, l.length ≤ ((l.map Stp.w).flatten).length
  | [] => by simp
  | a :: l => by
    have := stp_len l
    rw [List.map_cons, List.flatten_cons, List.length_append, List.length_cons]
    have : 1 ≤ a.w.length := by simp [Stp.w, Col.w]; omega
    omega
end Go.Cd
namespace Go.Proofs.YtfdeckdongonnaaDoor
open Go.Sl Go.Cd
set_option maxRecDepth 100000
set_option maxHeartbeats 4000000
set_option linter.unusedVariables false
attribute [local irreducible] WC WL WX WK WA WAK Val Ctr RunRes ResIs Rd At sl box pt Exit.then Exit.inBlock bodyPost Code.wp wpList
theorem opaint_ctr (o : Nat) (p : Pnt) (t : Value) (sv : Value) (bad : Bool) (bs : Bs) (I : Mem) (hp : p.at_ I t) (hl : (bs ++ p.w).length ≤ 1099511627776) :
    Ctr Tryd.prog 88 [ptr o, .agg (p.cs t).toArray] I (outL o sv bad bs) (WrP o p.w (bad || !p.wok) bs) := by
  obtain ⟨a1, q1, rfl⟩ := hp.sl
  refine Ctr.intro Tryd.func88 rfl rfl rfl fun E F => ?_
  refine WC.seq ?_
  refine WC.region ?_
  (refine WL.box rfl rfl ?_; intro _)
  refine WL.nApp ?_
  refine WL.nil ?_
  refine WX.thenC ?_
  refine WC.seq ?_
  rename_i g
  refine WC.conv (L' := F :: outL o sv bad bs ++ [box g 33 (p.cs (.slice a1 p.stops.length q1))]) (fun w h => h) ?_
  refine WC.nApp ?_
  refine WC.drawK 999 I [3] rfl (by kernel_rfl) rfl rfl ?_
  refine WA.take 0 rfl (by kernel_rfl) rfl (fun w h => (h.sub [3] rfl)) (Val.moveP rfl) rfl ?_
  refine WA.take 1 rfl (by kernel_rfl) rfl (fun w h => (h.sub [3] rfl)) (Val.nilCheckP rfl) rfl ?_
  refine WA.take 2 rfl (by kernel_rfl) rfl (fun w h => (h.sub [3] rfl)) (Val.fldAddr rfl) rfl ?_
  refine WA.take 3 rfl (by kernel_rfl) rfl (fun w h => (h.sub [3] rfl)) (Val.fldAddr rfl) rfl ?_
  refine WA.take 4 rfl (by kernel_rfl) rfl (fun w h => (h.sub [3] rfl)) (Val.loadS rfl (Rd.own1 0 rfl rfl)) rfl ?_
  refine WA.eff1 (i := 5) (by kernel_rfl) rfl rfl ?_
  refine WL.callP [1, 1] rfl rfl (outInt o 116 sv [.bool bad] bs p.kind _ hp.kind (by simp at hl; omega)) rfl ?_
  rintro _ _ _ - ⟨rfl, rfl, sv1, rfl⟩
  refine WL.conv (fun w h => h.sub [0, 1, 1, 0] rfl) ?_
  refine WL.nil ?_
  refine WK.anyStep (fun w h => (h.sub [3] rfl)) ?_
  refine WA.done (by kernel_rfl) ?_
  by_cases k0 : p.kind = 0
  · skip
    refine WX.thenC ?_
    refine WC.seq ?_
    refine WC.region ?_
    refine WL.val (Val.fldAddr rfl) rfl ?_
    refine WL.val (Val.loadS rfl (Rd.own1 3 rfl rfl)) rfl ?_
    refine WL.nil ?_
    refine WX.thenC ?_
    refine WC.block ?_
    refine WC.seq ?_
    refine WC.region ?_
    refine WL.val (Val.eql rfl rfl (beq_iff_eq.2 (by omega))) rfl ?_
    refine WL.val (Val.assignB rfl) rfl ?_
    refine WL.nil ?_
    refine WX.thenC ?_
    refine WC.condT rfl ?_
    refine WC.skip ?_
    refine WX.inNormal ?_
    apply WX.doneN (ks := [0, 0])
    case hres => exact RunRes.r0 rfl
    case hp => rfl
    case hI => first | exact Mem.le.refl _ | assumption
    refine ⟨sv1, ?_⟩
    rw [show p.w = eInt p.kind by simp [Pnt.w, k0], show p.wok = true by simp [Pnt.wok, k0], Bool.not_true, Bool.or_false]
  by_cases k1 : p.kind = 1
  · have hw : p.w = eInt p.kind ++ p.col.w := by simp [Pnt.w, k1]
    rw [hw, ← List.append_assoc] at hl
    refine WX.thenC ?_
    refine WC.seq ?_
    refine WC.region ?_
    refine WL.val (Val.fldAddr rfl) rfl ?_
    refine WL.val (Val.loadS rfl (Rd.own1 3 rfl rfl)) rfl ?_
    refine WL.nil ?_
    refine WX.thenC ?_
    refine WC.block ?_
    refine WC.seq ?_
    refine WC.region ?_
    refine WL.val (Val.eql rfl rfl (beq_eq_false_iff_ne.2 (by omega))) rfl ?_
    refine WL.val (Val.assignB rfl) rfl ?_
    refine WL.nil ?_
    refine WX.thenC ?_
    refine WC.condF rfl ?_
    refine WC.seq ?_
    refine WC.region ?_
    refine WL.val (Val.eql rfl rfl (beq_iff_eq.2 (by omega))) rfl ?_
    refine WL.val (Val.assignB rfl) rfl ?_
    refine WL.nil ?_
    refine WX.thenC ?_
    refine WC.condT rfl ?_
    refine WC.region ?_
    refine WL.val (Val.moveP rfl) rfl ?_
    refine WL.val (Val.fldAddr rfl) rfl ?_
    refine WL.val (Val.ldO 3 rfl rfl rfl) rfl ?_
    refine WL.callP [1, 1] rfl rfl (ocolor_ctr o p.col sv1 bad _ _ hl) rfl ?_
    rintro _ I2 _ hI2 ⟨sv2, rfl⟩
    refine WL.nApp ?_
    refine WL.nil ?_
    refine WX.inNormal ?_
    apply WX.doneN (ks := [1, 1])
    case hres => exact RunRes.r0 rfl
    case hp => rfl
    case hI => first | exact Mem.le.refl _ | assumption
    refine ⟨sv2, ?_⟩
    rw [hw, ← List.append_assoc, show p.wok = true by simp [Pnt.wok, k1], Bool.not_true, Bool.or_false]
  by_cases k23 : p.kind = 2 ∨ p.kind = 3
  · rcases k23 with k2 | k3
    · have hB : ∀ k, k ≤ p.stops.length → (bs ++ eInt p.kind ++ p.frm.w ++ p.to.w ++ eInt p.stops.length ++ lk Stp.w p.stops k).length ≤ 1099511627776 := by
        intro k hk
        have h1 := lk_le Stp.w p.stops k
        have h2 : p.w = eInt p.kind ++ (p.frm.w ++ p.to.w ++ (eInt p.stops.length ++ (p.stops.map Stp.w).flatten)) := by simp [Pnt.w, k2, lw]
        rw [h2] at hl
        simp only [List.length_append] at hl ⊢
        omega
      have hB0 := hB 0 (by omega)
      simp only [List.length_append] at hB0
      have hlen := stp_len p.stops
      have hlk := lk_le Stp.w p.stops p.stops.length
      have hBn := hB _ (Nat.le_refl _)
      rw [lk_all] at hBn
      simp only [List.length_append] at hBn
      refine WX.thenC ?_
      refine WC.seq ?_
      refine WC.region ?_
      refine WL.val (Val.fldAddr rfl) rfl ?_
      refine WL.val (Val.loadS rfl (Rd.own1 3 rfl rfl)) rfl ?_
      refine WL.nil ?_
      refine WX.thenC ?_
      refine WC.block ?_
      refine WC.seq ?_
      refine WC.region ?_
      refine WL.val (Val.eql rfl rfl (beq_eq_false_iff_ne.2 (by omega))) rfl ?_
      refine WL.val (Val.assignB rfl) rfl ?_
      refine WL.nil ?_
      refine WX.thenC ?_
      refine WC.condF rfl ?_
      refine WC.seq ?_
      refine WC.region ?_
      refine WL.val (Val.eql rfl rfl (beq_eq_false_iff_ne.2 (by omega))) rfl ?_
      refine WL.val (Val.assignB rfl) rfl ?_
      refine WL.nil ?_
      refine WX.thenC ?_
      refine WC.condF rfl ?_
      refine WC.seq ?_
      refine WC.seq ?_
      refine WC.region ?_
      refine WL.val (Val.eql rfl rfl (beq_iff_eq.2 (by omega))) rfl ?_
      refine WL.val (Val.assignB rfl) rfl ?_
      refine WL.nil ?_
      refine WX.thenC ?_
      refine WC.condT rfl ?_
      refine WC.skip ?_
      refine WX.thenC ?_
      refine WC.condT rfl ?_
      refine WC.seq ?_
      refine WC.region ?_
      refine WL.val (Val.moveP rfl) rfl ?_
      refine WL.val (Val.fldAddr rfl) rfl ?_
      refine WL.val (Val.ldO 3 rfl rfl rfl) rfl ?_
      refine WL.callP [1, 1] rfl rfl (opoint_ctr o p.frm sv1 bad _ _ hp.frm (by simp only [List.length_append]; omega)) rfl ?_
      rintro _ I2 _ hI2 ⟨sv2, rfl⟩
      refine WL.nApp ?_
      refine WL.nil ?_
      refine WX.thenC ?_
      refine WC.seq ?_
      refine WC.region ?_
      refine WL.val (Val.moveP rfl) rfl ?_
      refine WL.val (Val.fldAddr rfl) rfl ?_
      refine WL.val (Val.ldO 1 rfl rfl rfl) rfl ?_
      refine WL.callP [2, 2] rfl rfl (opoint_ctr o p.to sv2 bad _ _ hp.to (by simp only [List.length_append]; omega)) rfl ?_
      rintro _ I3 _ hI3 ⟨sv3, rfl⟩
      refine WL.nApp ?_
      refine WL.nil ?_
      refine WX.thenC ?_
      refine WC.seq ?_
      refine WC.region ?_
      refine WL.val (Val.moveP rfl) rfl ?_
      refine WL.val (Val.fldAddr rfl) rfl ?_
      refine WL.val (Val.loadS rfl (Rd.own1 1 rfl rfl)) rfl ?_
      refine WL.val (Val.len rfl) rfl ?_
      refine WL.callP [2, 2] rfl rfl (ocount_ctr o p.stops.length 16 sv3 bad _ _ ⟨by omega, by omega⟩ (by simp only [List.length_append]; omega)) rfl ?_
      rintro _ I4 _ hI4 ⟨sv4, rfl⟩
      refine WL.nApp ?_
      refine WL.nil ?_
      refine WX.thenC ?_
      refine WC.seq ?_
      refine WC.region ?_
      refine WL.val (Val.fldAddr rfl) rfl ?_
      refine WL.val (Val.loadS rfl (Rd.own1 1 rfl rfl)) rfl ?_
      refine WL.val (Val.len rfl) rfl ?_
      refine WL.val (Val.moveI rfl) rfl ?_
      refine WL.nil ?_
      refine WX.thenC ?_
      refine WC.block ?_
      refine WC.loop (fun m ρ' I' L' => ∃ k : Nat, ∃ sv', m = p.stops.length - k ∧ k ≤ p.stops.length ∧ I4.le I' ∧ ρ' 0 = ptr o ∧ ρ' 42 = .slice a1 p.stops.length q1 ∧ ρ' 43 = vi p.stops.length ∧ ρ' 44 = vi k ∧
          L' = F :: box g 33 (p.cs (.slice a1 p.stops.length q1)) :: outL o sv' (bad || decide (16 < (p.stops.length : Int))) (bs ++ eInt p.kind ++ p.frm.w ++ p.to.w ++ eInt p.stops.length ++ lk Stp.w p.stops k))
        p.stops.length ⟨0, sv4, rfl, by omega, Mem.le.refl _, rfl, rfl, rfl, rfl, by rw [lk_zero, List.append_nil]⟩ ?_
      rintro m ρ' I5 L' ⟨k, sv', rfl, hk, hI5, h0, h42, h43, h44, rfl⟩
      rw [← upd_self h44, ← upd_self h43, ← upd_self h42, ← upd_self h0]
      clear h44 h43 h42 h0
      have hle := (((hI2.trans hI3).trans hI4).trans hI5)
      have hst := hp.stops.mono hle
      by_cases hkn : k < p.stops.length
      · obtain ⟨b, off, cap', cs, he, ⟨rfl, hi⟩, hA⟩ := hst.get k hkn
        cases he
        have hs := lk_succ Stp.w p.stops k hkn
        have hB1 := hB (k + 1) (by omega)
        rw [hs] at hB1
        simp only [List.length_append, Stp.w] at hB1
        refine WC.seq ?_
        refine WC.region ?_
        refine WL.val (Val.lss rfl rfl (decide_eq_true (by omega))) rfl ?_
        refine WL.nil ?_
        refine WX.thenC ?_
        refine WC.seq ?_
        refine WC.condT rfl ?_
        refine WC.skip ?_
        refine WX.thenC ?_
        refine WC.seq ?_
        refine WC.block ?_
        refine WC.seq ?_
        refine WC.region ?_
        refine WL.val (Val.indexAddr rfl rfl (by omega) (by omega)) rfl ?_
        refine WL.val (Val.loadI rfl (by assumption) rfl) rfl ?_
        (refine WL.alloc rfl ?_; intro _)
        refine WL.nApp ?_
        refine WL.stA 4 rfl rfl rfl rfl ?_
        refine WL.nil ?_
        refine WX.thenC ?_
        refine WC.seq ?_
        rename_i h
        refine WC.drawK 999 I5 [4] rfl (by kernel_rfl) rfl rfl ?_
        refine WA.take 0 rfl (by kernel_rfl) rfl (fun w h => (h.sub [4] rfl)) (Val.moveP rfl) rfl ?_
        refine WA.take 1 rfl (by kernel_rfl) rfl (fun w h => (h.sub [4] rfl)) (Val.nilCheckP rfl) rfl ?_
        refine WA.take 2 rfl (by kernel_rfl) rfl (fun w h => (h.sub [4] rfl)) (Val.fldAddr rfl) rfl ?_
        refine WA.take 3 rfl (by kernel_rfl) rfl (fun w h => (h.sub [4] rfl)) (Val.fldAddr rfl) rfl ?_
        refine WA.take 4 rfl (by kernel_rfl) rfl (fun w h => (h.sub [4] rfl)) (Val.loadS rfl (Rd.own1 0 rfl rfl)) rfl ?_
        refine WA.eff1 (i := 5) (by kernel_rfl) rfl rfl ?_
        refine WL.callP [2, 2] rfl rfl (outInt o 116 sv' [_] _ _ _ hi (by simp only [List.length_append]; omega)) rfl ?_
        rintro _ _ _ - ⟨rfl, rfl, sv5, rfl⟩
        refine WL.conv (fun w h => h.sub [0, 0, 1, 1, 0] rfl) ?_
        refine WL.nil ?_
        refine WK.anyStep (fun w h => (h.sub [4] rfl)) ?_
        refine WA.done (by kernel_rfl) ?_
        refine WX.thenC ?_
        refine WC.region ?_
        refine WL.val (Val.moveP rfl) rfl ?_
        refine WL.val (Val.fldAddr rfl) rfl ?_
        refine WL.val (Val.ldO 4 rfl rfl rfl) rfl ?_
        refine WL.callP [2, 2] rfl rfl (ocolor_ctr o (p.stops[k]).col sv5 _ _ _ (by simp only [List.length_append]; omega)) rfl ?_
        rintro _ I6 _ hI6 ⟨sv6, rfl⟩
        refine WL.nApp ?_
        refine WL.nil ?_
        refine WX.inNormal ?_
        refine WX.thenC ?_
        refine WC.region ?_
        refine WL.val (Val.add rfl rfl (wrap_i64 (by omega) (by omega))) rfl ?_
        refine WL.val (Val.moveI rfl) rfl ?_
        refine WL.nil ?_
        refine WX.conv (fun w h => h.sub [0, 0, 1, 1] rfl) ?_
        exact WX.thenK (WK.round (p.stops.length - (k + 1)) (by omega) ⟨k + 1, sv6, rfl, by omega, hI5.trans hI6, rfl, rfl, rfl, rfl, by rw [hs]; simp only [Stp.w, List.append_assoc]⟩)
      · skip
        refine WC.seq ?_
        refine WC.region ?_
        refine WL.val (Val.lss rfl rfl (decide_eq_false (by omega))) rfl ?_
        refine WL.nil ?_
        refine WX.thenC ?_
        refine WC.seq ?_
        refine WC.condF rfl ?_
        refine WC.exit ?_
        refine WX.thenExit ?_
        refine WX.thenExit ?_
        refine WX.inHit ?_
        refine WX.inNormal ?_
        apply WX.doneN (ks := [1, 1])
        case hres => exact RunRes.r0 rfl
        case hp => rfl
        case hI => first | exact Mem.le.refl _ | assumption
        obtain rfl : k = p.stops.length := by omega
        refine ⟨sv', ?_⟩
        have h2 : p.w = eInt p.kind ++ (p.frm.w ++ p.to.w ++ (eInt p.stops.length ++ (p.stops.map Stp.w).flatten)) := by simp [Pnt.w, k2, lw]
        have h3 : (bad || !p.wok) = (bad || decide (16 < (p.stops.length : Int))) := by
          congr 1
          have : p.wok = decide ((p.stops.length : Int) ≤ 16) := by simp [Pnt.wok, k2]
          rw [this, ← decide_not]
          exact decide_eq_decide.2 (by omega)
        rw [h2, h3, lk_all]
        simp only [List.append_assoc]
    · have hB : ∀ k, k ≤ p.stops.length → (bs ++ eInt p.kind ++ p.frm.w ++ p.to.w ++ eInt p.stops.length ++ lk Stp.w p.stops k).length ≤ 1099511627776 := by
        intro k hk
        have h1 := lk_le Stp.w p.stops k
        have h2 : p.w = eInt p.kind ++ (p.frm.w ++ p.to.w ++ (eInt p.stops.length ++ (p.stops.map Stp.w).flatten)) := by simp [Pnt.w, k3, lw]
        rw [h2] at hl
        simp only [List.length_append] at hl ⊢
        omega
      have hB0 := hB 0 (by omega)
      simp only [List.length_append] at hB0
      have hlen := stp_len p.stops
      have hlk := lk_le Stp.w p.stops p.stops.length
      have hBn := hB _ (Nat.le_refl _)
      rw [lk_all] at hBn
      simp only [List.length_append] at hBn
      refine WX.thenC ?_
      refine WC.seq ?_
      refine WC.region ?_
      refine WL.val (Val.fldAddr rfl) rfl ?_
      refine WL.val (Val.loadS rfl (Rd.own1 3 rfl rfl)) rfl ?_
      refine WL.nil ?_
      refine WX.thenC ?_
      refine WC.block ?_
      refine WC.seq ?_
      refine WC.region ?_
      refine WL.val (Val.eql rfl rfl (beq_eq_false_iff_ne.2 (by omega))) rfl ?_
      refine WL.val (Val.assignB rfl) rfl ?_
      refine WL.nil ?_
      refine WX.thenC ?_
      refine WC.condF rfl ?_
      refine WC.seq ?_
      refine WC.region ?_
      refine WL.val (Val.eql rfl rfl (beq_eq_false_iff_ne.2 (by omega))) rfl ?_
      refine WL.val (Val.assignB rfl) rfl ?_
      refine WL.nil ?_
      refine WX.thenC ?_
      refine WC.condF rfl ?_
      refine WC.seq ?_
      refine WC.seq ?_
      refine WC.region ?_
      refine WL.val (Val.eql rfl rfl (beq_eq_false_iff_ne.2 (by omega))) rfl ?_
      refine WL.val (Val.assignB rfl) rfl ?_
      refine WL.nil ?_
      refine WX.thenC ?_
      refine WC.condF rfl ?_
      refine WC.region ?_
      refine WL.val (Val.eql rfl rfl (beq_iff_eq.2 (by omega))) rfl ?_
      refine WL.val (Val.assignB rfl) rfl ?_
      refine WL.nil ?_
      refine WX.thenC ?_
      refine WC.condT rfl ?_
      refine WC.seq ?_
      refine WC.region ?_
      refine WL.val (Val.moveP rfl) rfl ?_
      refine WL.val (Val.fldAddr rfl) rfl ?_
      refine WL.val (Val.ldO 3 rfl rfl rfl) rfl ?_
      refine WL.callP [1, 1] rfl rfl (opoint_ctr o p.frm sv1 bad _ _ hp.frm (by simp only [List.length_append]; omega)) rfl ?_
      rintro _ I2 _ hI2 ⟨sv2, rfl⟩
      refine WL.nApp ?_
      refine WL.nil ?_
      refine WX.thenC ?_
      refine WC.seq ?_
      refine WC.region ?_
      refine WL.val (Val.moveP rfl) rfl ?_
      refine WL.val (Val.fldAddr rfl) rfl ?_
      refine WL.val (Val.ldO 1 rfl rfl rfl) rfl ?_
      refine WL.callP [2, 2] rfl rfl (opoint_ctr o p.to sv2 bad _ _ hp.to (by simp only [List.length_append]; omega)) rfl ?_
      rintro _ I3 _ hI3 ⟨sv3, rfl⟩
      refine WL.nApp ?_
      refine WL.nil ?_
      refine WX.thenC ?_
      refine WC.seq ?_
      refine WC.region ?_
      refine WL.val (Val.moveP rfl) rfl ?_
      refine WL.val (Val.fldAddr rfl) rfl ?_
      refine WL.val (Val.loadS rfl (Rd.own1 1 rfl rfl)) rfl ?_
      refine WL.val (Val.len rfl) rfl ?_
      refine WL.callP [2, 2] rfl rfl (ocount_ctr o p.stops.length 16 sv3 bad _ _ ⟨by omega, by omega⟩ (by simp only [List.length_append]; omega)) rfl ?_
      rintro _ I4 _ hI4 ⟨sv4, rfl⟩
      refine WL.nApp ?_
      refine WL.nil ?_
      refine WX.thenC ?_
      refine WC.seq ?_
      refine WC.region ?_
      refine WL.val (Val.fldAddr rfl) rfl ?_
      refine WL.val (Val.loadS rfl (Rd.own1 1 rfl rfl)) rfl ?_
      refine WL.val (Val.len rfl) rfl ?_
      refine WL.val (Val.moveI rfl) rfl ?_
      refine WL.nil ?_
      refine WX.thenC ?_
      refine WC.block ?_
      refine WC.loop (fun m ρ' I' L' => ∃ k : Nat, ∃ sv', m = p.stops.length - k ∧ k ≤ p.stops.length ∧ I4.le I' ∧ ρ' 0 = ptr o ∧ ρ' 42 = .slice a1 p.stops.length q1 ∧ ρ' 43 = vi p.stops.length ∧ ρ' 44 = vi k ∧
          L' = F :: box g 33 (p.cs (.slice a1 p.stops.length q1)) :: outL o sv' (bad || decide (16 < (p.stops.length : Int))) (bs ++ eInt p.kind ++ p.frm.w ++ p.to.w ++ eInt p.stops.length ++ lk Stp.w p.stops k))
        p.stops.length ⟨0, sv4, rfl, by omega, Mem.le.refl _, rfl, rfl, rfl, rfl, by rw [lk_zero, List.append_nil]⟩ ?_
      rintro m ρ' I5 L' ⟨k, sv', rfl, hk, hI5, h0, h42, h43, h44, rfl⟩
      rw [← upd_self h44, ← upd_self h43, ← upd_self h42, ← upd_self h0]
      clear h44 h43 h42 h0
      have hle := (((hI2.trans hI3).trans hI4).trans hI5)
      have hst := hp.stops.mono hle
      by_cases hkn : k < p.stops.length
      · obtain ⟨b, off, cap', cs, he, ⟨rfl, hi⟩, hA⟩ := hst.get k hkn
        cases he
        have hs := lk_succ Stp.w p.stops k hkn
        have hB1 := hB (k + 1) (by omega)
        rw [hs] at hB1
        simp only [List.length_append, Stp.w] at hB1
        refine WC.seq ?_
        refine WC.region ?_
        refine WL.val (Val.lss rfl rfl (decide_eq_true (by omega))) rfl ?_
        refine WL.nil ?_
        refine WX.thenC ?_
        refine WC.seq ?_
        refine WC.condT rfl ?_
        refine WC.skip ?_
        refine WX.thenC ?_
        refine WC.seq ?_
        refine WC.block ?_
        refine WC.seq ?_
        refine WC.region ?_
        refine WL.val (Val.indexAddr rfl rfl (by omega) (by omega)) rfl ?_
        refine WL.val (Val.loadI rfl (by assumption) rfl) rfl ?_
        (refine WL.alloc rfl ?_; intro _)
        refine WL.nApp ?_
        refine WL.stA 4 rfl rfl rfl rfl ?_
        refine WL.nil ?_
        refine WX.thenC ?_
        refine WC.seq ?_
        rename_i h
        refine WC.drawK 999 I5 [4] rfl (by kernel_rfl) rfl rfl ?_
        refine WA.take 0 rfl (by kernel_rfl) rfl (fun w h => (h.sub [4] rfl)) (Val.moveP rfl) rfl ?_
        refine WA.take 1 rfl (by kernel_rfl) rfl (fun w h => (h.sub [4] rfl)) (Val.nilCheckP rfl) rfl ?_
        refine WA.take 2 rfl (by kernel_rfl) rfl (fun w h => (h.sub [4] rfl)) (Val.fldAddr rfl) rfl ?_
        refine WA.take 3 rfl (by kernel_rfl) rfl (fun w h => (h.sub [4] rfl)) (Val.fldAddr rfl) rfl ?_
        refine WA.take 4 rfl (by kernel_rfl) rfl (fun w h => (h.sub [4] rfl)) (Val.loadS rfl (Rd.own1 0 rfl rfl)) rfl ?_
        refine WA.eff1 (i := 5) (by kernel_rfl) rfl rfl ?_
        refine WL.callP [2, 2] rfl rfl (outInt o 116 sv' [_] _ _ _ hi (by simp only [List.length_append]; omega)) rfl ?_
        rintro _ _ _ - ⟨rfl, rfl, sv5, rfl⟩
        refine WL.conv (fun w h => h.sub [0, 0, 1, 1, 0] rfl) ?_
        refine WL.nil ?_
        refine WK.anyStep (fun w h => (h.sub [4] rfl)) ?_
        refine WA.done (by kernel_rfl) ?_
        refine WX.thenC ?_
        refine WC.region ?_
        refine WL.val (Val.moveP rfl) rfl ?_
        refine WL.val (Val.fldAddr rfl) rfl ?_
        refine WL.val (Val.ldO 4 rfl rfl rfl) rfl ?_
        refine WL.callP [2, 2] rfl rfl (ocolor_ctr o (p.stops[k]).col sv5 _ _ _ (by simp only [List.length_append]; omega)) rfl ?_
        rintro _ I6 _ hI6 ⟨sv6, rfl⟩
        refine WL.nApp ?_
        refine WL.nil ?_
        refine WX.inNormal ?_
        refine WX.thenC ?_
        refine WC.region ?_
        refine WL.val (Val.add rfl rfl (wrap_i64 (by omega) (by omega))) rfl ?_
        refine WL.val (Val.moveI rfl) rfl ?_
        refine WL.nil ?_
        refine WX.conv (fun w h => h.sub [0, 0, 1, 1] rfl) ?_
        exact WX.thenK (WK.round (p.stops.length - (k + 1)) (by omega) ⟨k + 1, sv6, rfl, by omega, hI5.trans hI6, rfl, rfl, rfl, rfl, by rw [hs]; simp only [Stp.w, List.append_assoc]⟩)
      · skip
        refine WC.seq ?_
        refine WC.region ?_
        refine WL.val (Val.lss rfl rfl (decide_eq_false (by omega))) rfl ?_
        refine WL.nil ?_
        refine WX.thenC ?_
        refine WC.seq ?_
        refine WC.condF rfl ?_
        refine WC.exit ?_
        refine WX.thenExit ?_
        refine WX.thenExit ?_
        refine WX.inHit ?_
        refine WX.inNormal ?_
        apply WX.doneN (ks := [1, 1])
        case hres => exact RunRes.r0 rfl
        case hp => rfl
        case hI => first | exact Mem.le.refl _ | assumption
        obtain rfl : k = p.stops.length := by omega
        refine ⟨sv', ?_⟩
        have h2 : p.w = eInt p.kind ++ (p.frm.w ++ p.to.w ++ (eInt p.stops.length ++ (p.stops.map Stp.w).flatten)) := by simp [Pnt.w, k3, lw]
        have h3 : (bad || !p.wok) = (bad || decide (16 < (p.stops.length : Int))) := by
          congr 1
          have : p.wok = decide ((p.stops.length : Int) ≤ 16) := by simp [Pnt.wok, k3]
          rw [this, ← decide_not]
          exact decide_eq_decide.2 (by omega)
        rw [h2, h3, lk_all]
        simp only [List.append_assoc]
  · skip
    refine WX.thenC ?_
    refine WC.seq ?_
    refine WC.region ?_
    refine WL.val (Val.fldAddr rfl) rfl ?_
    refine WL.val (Val.loadS rfl (Rd.own1 3 rfl rfl)) rfl ?_
    refine WL.nil ?_
    refine WX.thenC ?_
    refine WC.block ?_
    refine WC.seq ?_
    refine WC.region ?_
    refine WL.val (Val.eql rfl rfl (beq_eq_false_iff_ne.2 (by omega))) rfl ?_
    refine WL.val (Val.assignB rfl) rfl ?_
    refine WL.nil ?_
    refine WX.thenC ?_
    refine WC.condF rfl ?_
    refine WC.seq ?_
    refine WC.region ?_
    refine WL.val (Val.eql rfl rfl (beq_eq_false_iff_ne.2 (by omega))) rfl ?_
    refine WL.val (Val.assignB rfl) rfl ?_
    refine WL.nil ?_
    refine WX.thenC ?_
    refine WC.condF rfl ?_
    refine WC.seq ?_
    refine WC.seq ?_
    refine WC.region ?_
    refine WL.val (Val.eql rfl rfl (beq_eq_false_iff_ne.2 (by omega))) rfl ?_
    refine WL.val (Val.assignB rfl) rfl ?_
    refine WL.nil ?_
    refine WX.thenC ?_
    refine WC.condF rfl ?_
    refine WC.region ?_
    refine WL.val (Val.eql rfl rfl (beq_eq_false_iff_ne.2 (by omega))) rfl ?_
    refine WL.val (Val.assignB rfl) rfl ?_
    refine WL.nil ?_
    refine WX.thenC ?_
    refine WC.condF rfl ?_
    refine WC.region ?_
    refine WL.val (Val.moveP rfl) rfl ?_
    refine WL.val (Val.nilCheckP rfl) rfl ?_
    refine WL.val (Val.fldAddr rfl) rfl ?_
    refine WL.stB 1 rfl rfl rfl rfl ?_
    refine WL.nil ?_
    refine WX.inNormal ?_
    apply WX.doneN (ks := [0, 0])
    case hres => exact RunRes.r0 rfl
    case hp => rfl
    case hI => first | exact Mem.le.refl _ | assumption
    refine ⟨sv1, ?_⟩
    rw [show p.w = eInt p.kind by simp [Pnt.w, k1, k23], show p.wok = false by simp [Pnt.wok, k0, k1]; omega, Bool.not_false, Bool.or_true]
end Go.Proofs.YtfdeckdongonnaaDoor
