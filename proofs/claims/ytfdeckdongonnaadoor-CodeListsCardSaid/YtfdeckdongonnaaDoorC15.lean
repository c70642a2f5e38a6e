/-
  Code, the walks: writing segments, paths.
-/
import Derived.Test.YtfdeckdongonnaaDoorC14
namespace Go.Cd
open Go.Sl
def Sg.wok (s : Sg) : Bool := decide (1 ≤ s.kind ∧ s.kind ≤ 5)
theorem need_le3 (n : Int) : need n ≤ 3 := by
  unfold need
  split
  · omega
  split
  · omega
  split <;> omega
end Go.Cd
namespace Go.Proofs.YtfdeckdongonnaaDoor
open Go.Sl Go.Cd
set_option maxRecDepth 100000
set_option maxHeartbeats 4000000
set_option linter.unusedVariables false
attribute [local irreducible] WC WL WX WK WA WAK Val Ctr RunRes ResIs Rd At sl box pt Exit.then Exit.inBlock bodyPost Code.wp wpList
theorem oseg_ctr (o : Nat) (s : Sg) (sv : Value) (bad : Bool) (bs : Bs) (I : Mem) (hN : NeedAt I) (hs : s.ok) (hl : (bs ++ s.w).length ≤ 1099511627776) :
    Ctr Tryd.prog 72 [ptr o, .agg s.cs.toArray] I (outL o sv bad bs) (WrP o s.w (bad || !s.wok) bs) := by
  refine Ctr.intro Tryd.func72 rfl rfl rfl fun E F => ?_
  refine WC.seq ?_
  refine WC.region ?_
  (refine WL.box rfl rfl ?_; intro _)
  refine WL.nApp ?_
  refine WL.nil ?_
  refine WX.thenC ?_
  refine WC.seq ?_
  rename_i g
  refine WC.cutP (fun ρ' I' L' => I' = I ∧ ρ' 0 = ptr o ∧ ρ' 3 = ptr g ∧ L' = [F, box o 116 [sv, .bool (bad || !s.wok)], sl 5 1 sv bs.length (bs.map byt), box g 44 s.cs]) ?_ ?_
  · cases bad
    · by_cases h1 : s.kind < 1
      · skip
        refine WC.region ?_
        refine WL.val (Val.moveP rfl) rfl ?_
        refine WL.val (Val.moveP rfl) rfl ?_
        refine WL.val (Val.nilCheckP rfl) rfl ?_
        refine WL.val (Val.fldAddr rfl) rfl ?_
        refine WL.val (Val.loadS rfl (Rd.own1 1 rfl rfl)) rfl ?_
        refine WL.val (Val.moveB rfl) rfl ?_
        refine WL.gT rfl rfl ?_
        refine WL.val (Val.fldAddr rfl) rfl ?_
        refine WL.gT rfl rfl ?_
        refine WL.val (Val.loadS rfl (Rd.own1 3 rfl rfl)) rfl ?_
        refine WL.gT rfl rfl ?_
        refine WL.val (Val.lss rfl rfl (decide_eq_true (by omega))) rfl ?_
        refine WL.val (Val.pick rfl) rfl ?_
        refine WL.val (Val.moveB rfl) rfl ?_
        refine WL.gF rfl rfl rfl rfl ?_
        refine WL.gF rfl rfl rfl rfl ?_
        refine WL.gF rfl rfl rfl rfl ?_
        refine WL.val (Val.pick rfl) rfl ?_
        refine WL.val (Val.nilCheckP rfl) rfl ?_
        refine WL.val (Val.fldAddr rfl) rfl ?_
        refine WL.stB 1 rfl rfl rfl rfl ?_
        refine WL.nil ?_
        refine WX.thenK (WK.meet ⟨rfl, rfl, rfl, ?_⟩)
        rw [show s.wok = false by simp [Sg.wok]; omega]
        rfl
      · by_cases h5 : s.kind > 5
        · skip
          refine WC.region ?_
          refine WL.val (Val.moveP rfl) rfl ?_
          refine WL.val (Val.moveP rfl) rfl ?_
          refine WL.val (Val.nilCheckP rfl) rfl ?_
          refine WL.val (Val.fldAddr rfl) rfl ?_
          refine WL.val (Val.loadS rfl (Rd.own1 1 rfl rfl)) rfl ?_
          refine WL.val (Val.moveB rfl) rfl ?_
          refine WL.gT rfl rfl ?_
          refine WL.val (Val.fldAddr rfl) rfl ?_
          refine WL.gT rfl rfl ?_
          refine WL.val (Val.loadS rfl (Rd.own1 3 rfl rfl)) rfl ?_
          refine WL.gT rfl rfl ?_
          refine WL.val (Val.lss rfl rfl (decide_eq_false (by omega))) rfl ?_
          refine WL.val (Val.pick rfl) rfl ?_
          refine WL.val (Val.moveB rfl) rfl ?_
          refine WL.gT rfl rfl ?_
          refine WL.val (Val.fldAddr rfl) rfl ?_
          refine WL.gT rfl rfl ?_
          refine WL.val (Val.loadS rfl (Rd.own1 3 rfl rfl)) rfl ?_
          refine WL.gT rfl rfl ?_
          refine WL.val (Val.gtr rfl rfl (decide_eq_true (by omega))) rfl ?_
          refine WL.val (Val.pick rfl) rfl ?_
          refine WL.val (Val.nilCheckP rfl) rfl ?_
          refine WL.val (Val.fldAddr rfl) rfl ?_
          refine WL.stB 1 rfl rfl rfl rfl ?_
          refine WL.nil ?_
          refine WX.thenK (WK.meet ⟨rfl, rfl, rfl, ?_⟩)
          rw [show s.wok = false by simp [Sg.wok]; omega]
          rfl
        · skip
          refine WC.region ?_
          refine WL.val (Val.moveP rfl) rfl ?_
          refine WL.val (Val.moveP rfl) rfl ?_
          refine WL.val (Val.nilCheckP rfl) rfl ?_
          refine WL.val (Val.fldAddr rfl) rfl ?_
          refine WL.val (Val.loadS rfl (Rd.own1 1 rfl rfl)) rfl ?_
          refine WL.val (Val.moveB rfl) rfl ?_
          refine WL.gT rfl rfl ?_
          refine WL.val (Val.fldAddr rfl) rfl ?_
          refine WL.gT rfl rfl ?_
          refine WL.val (Val.loadS rfl (Rd.own1 3 rfl rfl)) rfl ?_
          refine WL.gT rfl rfl ?_
          refine WL.val (Val.lss rfl rfl (decide_eq_false (by omega))) rfl ?_
          refine WL.val (Val.pick rfl) rfl ?_
          refine WL.val (Val.moveB rfl) rfl ?_
          refine WL.gT rfl rfl ?_
          refine WL.val (Val.fldAddr rfl) rfl ?_
          refine WL.gT rfl rfl ?_
          refine WL.val (Val.loadS rfl (Rd.own1 3 rfl rfl)) rfl ?_
          refine WL.gT rfl rfl ?_
          refine WL.val (Val.gtr rfl rfl (decide_eq_false (by omega))) rfl ?_
          refine WL.val (Val.pick rfl) rfl ?_
          refine WL.val (Val.nilCheckP rfl) rfl ?_
          refine WL.val (Val.fldAddr rfl) rfl ?_
          refine WL.stB 1 rfl rfl rfl rfl ?_
          refine WL.nil ?_
          refine WX.thenK (WK.meet ⟨rfl, rfl, rfl, ?_⟩)
          rw [show s.wok = true by simp [Sg.wok]; omega]
          rfl
    · skip
      refine WC.region ?_
      refine WL.val (Val.moveP rfl) rfl ?_
      refine WL.val (Val.moveP rfl) rfl ?_
      refine WL.val (Val.nilCheckP rfl) rfl ?_
      refine WL.val (Val.fldAddr rfl) rfl ?_
      refine WL.val (Val.loadS rfl (Rd.own1 1 rfl rfl)) rfl ?_
      refine WL.val (Val.moveB rfl) rfl ?_
      refine WL.gF rfl rfl rfl rfl ?_
      refine WL.gF rfl rfl rfl rfl ?_
      refine WL.gF rfl rfl rfl rfl ?_
      refine WL.val (Val.pick rfl) rfl ?_
      refine WL.val (Val.moveB rfl) rfl ?_
      refine WL.gF rfl rfl rfl rfl ?_
      refine WL.gF rfl rfl rfl rfl ?_
      refine WL.gF rfl rfl rfl rfl ?_
      refine WL.val (Val.pick rfl) rfl ?_
      refine WL.val (Val.nilCheckP rfl) rfl ?_
      refine WL.val (Val.fldAddr rfl) rfl ?_
      refine WL.stB 1 rfl rfl rfl rfl ?_
      refine WL.nil ?_
      refine WX.thenK (WK.meet ⟨rfl, rfl, rfl, ?_⟩)
      rfl
  · rintro ρ' I' L' ⟨rfl, h0, h3, rfl⟩
    rw [← upd_self h3, ← upd_self h0]
    clear h3 h0
    generalize (bad || !s.wok) = bad'
    have hw : bs ++ s.w = bs ++ eInt s.kind ++ lk Pt.w [s.p0, s.p1, s.p2] (need s.kind) := by simp [Sg.w, lk]
    have hb : ∀ k, k ≤ need s.kind → (bs ++ eInt s.kind ++ lk Pt.w [s.p0, s.p1, s.p2] k).length ≤ 1099511627776 := by
      intro k hk
      have h3 := need_le3 s.kind
      have : (lk Pt.w [s.p0, s.p1, s.p2] k).length ≤ (lk Pt.w [s.p0, s.p1, s.p2] (need s.kind)).length := by
        have h4 := lk_le Pt.w ([s.p0, s.p1, s.p2].take (need s.kind)) k
        unfold lk at h4 ⊢
        rw [List.take_take, Nat.min_eq_left hk] at h4
        exact h4
      rw [hw] at hl
      simp only [List.length_append] at hl ⊢
      omega
    have hb0 := hb 0 (by omega)
    simp only [List.length_append] at hb0
    refine WC.seq ?_
    refine WC.drawK 999 I' [3] rfl (by kernel_rfl) rfl rfl ?_
    refine WA.take 0 rfl (by kernel_rfl) rfl (fun w h => (h.sub [3] rfl)) (Val.moveP rfl) rfl ?_
    refine WA.take 1 rfl (by kernel_rfl) rfl (fun w h => (h.sub [3] rfl)) (Val.nilCheckP rfl) rfl ?_
    refine WA.take 2 rfl (by kernel_rfl) rfl (fun w h => (h.sub [3] rfl)) (Val.fldAddr rfl) rfl ?_
    refine WA.take 3 rfl (by kernel_rfl) rfl (fun w h => (h.sub [3] rfl)) (Val.fldAddr rfl) rfl ?_
    refine WA.take 4 rfl (by kernel_rfl) rfl (fun w h => (h.sub [3] rfl)) (Val.loadS rfl (Rd.own1 0 rfl rfl)) rfl ?_
    refine WA.eff1 (i := 5) (by kernel_rfl) rfl rfl ?_
    refine WL.callP [1, 1] rfl rfl (outInt o 116 sv [.bool bad'] bs s.kind _ hs.1 (by omega)) rfl ?_
    rintro _ I1 _ - ⟨rfl, rfl, sv1, rfl⟩
    refine WL.conv (fun w h => h.sub [0, 1, 1, 0] rfl) ?_
    refine WL.nil ?_
    refine WK.anyStep (fun w h => (h.sub [3] rfl)) ?_
    refine WA.done (by kernel_rfl) ?_
    refine WX.thenC ?_
    refine WC.seq ?_
    refine WC.region ?_
    refine WL.val (Val.fldAddr rfl) rfl ?_
    refine WL.val (Val.fldAddr rfl) rfl ?_
    refine WL.val (Val.loadS rfl (Rd.own1 3 rfl rfl)) rfl ?_
    refine WL.callS rfl rfl (need_ctr s.kind _ hN) rfl ?_
    rintro _ rfl
    have hn3 := need_le3 s.kind
    refine WL.val (Val.sliceA (h := need s.kind) rfl (.none _) (.some (e := ((need s.kind : Nat) : Int)) rfl (Int.natCast_nonneg _)) (by omega) (by omega)) rfl ?_
    refine WL.val (Val.len rfl) rfl ?_
    refine WL.val (Val.moveI rfl) rfl ?_
    refine WL.nil ?_
    refine WX.thenC ?_
    refine WC.block ?_
    refine WC.conv (fun w h => h.sub [0, 2, 0, 0] rfl) ?_
    refine WC.loop (fun m ρ' I' L' => ∃ k : Nat, ∃ sv', m = need s.kind - k ∧ k ≤ need s.kind ∧ I1.le I' ∧ ρ' 0 = ptr o ∧ ρ' 33 = .slice (some ⟨g, 1, none⟩) (need s.kind) 3 ∧ ρ' 34 = vi (need s.kind) ∧ ρ' 35 = vi k ∧
        L' = F :: box g 44 s.cs :: outL o sv' bad' (bs ++ eInt s.kind ++ lk Pt.w [s.p0, s.p1, s.p2] k))
      (need s.kind) ⟨0, sv1, rfl, by omega, Mem.le.refl _, rfl, rfl, rfl, rfl, by rw [lk_zero, List.append_nil]⟩ ?_
    rintro m ρ' I5 L' ⟨k, sv', rfl, hk, hI5, h0, h33, h34, h35, rfl⟩
    rw [← upd_self h35, ← upd_self h34, ← upd_self h33, ← upd_self h0]
    clear h35 h34 h33 h0
    by_cases hkn : k < need s.kind
    · have hs' := lk_succ Pt.w [s.p0, s.p1, s.p2] k (by simp; omega)
      have hb1 := hb (k + 1) (by omega)
      rw [hs', ← List.append_assoc] at hb1
      have hk3 : k = 0 ∨ k = 1 ∨ k = 2 := by omega
      rcases hk3 with rfl | rfl | rfl
      · skip
        refine WC.seq ?_
        refine WC.region ?_
        refine WL.val (Val.lss rfl rfl (decide_eq_true (by omega))) rfl ?_
        refine WL.nil ?_
        refine WX.thenC ?_
        refine WC.seq ?_
        refine WC.condT rfl ?_
        refine WC.skip ?_
        refine WX.thenC ?_
        refine WC.seq ?_
        refine WC.block ?_
        refine WC.seq ?_
        refine WC.region ?_
        refine WL.val (Val.indexAddr rfl rfl (by omega) (by omega)) rfl ?_
        refine WL.val (Val.loadO 1 rfl rfl rfl) rfl ?_
        (refine WL.alloc rfl ?_; intro _)
        refine WL.nApp ?_
        refine WL.store 4 rfl rfl rfl ?_
        refine WL.nSet ?_
        refine WL.nil ?_
        refine WX.thenC ?_
        refine WC.region ?_
        refine WL.val (Val.moveP rfl) rfl ?_
        refine WL.val (Val.loadO 4 rfl rfl rfl) rfl ?_
        refine WL.callP [2, 2] rfl rfl (opoint_ctr o s.p0 sv' bad' _ _ hs.2.1 hb1) rfl ?_
        rintro _ I6 _ hI6 ⟨sv6, rfl⟩
        refine WL.nApp ?_
        refine WL.nil ?_
        refine WX.inNormal ?_
        refine WX.thenC ?_
        refine WC.region ?_
        refine WL.val (Val.add rfl rfl (wrap_i64 (by omega) (by omega))) rfl ?_
        refine WL.val (Val.moveI rfl) rfl ?_
        refine WL.nil ?_
        refine WX.conv (fun w h => h.sub [0, 0, 1, 1] rfl) ?_
        exact WX.thenK (WK.round (need s.kind - 1) (by omega) ⟨1, sv6, rfl, by omega, hI5.trans hI6, rfl, rfl, rfl, rfl, by rw [hs', ← List.append_assoc]; rfl⟩)
      · skip
        refine WC.seq ?_
        refine WC.region ?_
        refine WL.val (Val.lss rfl rfl (decide_eq_true (by omega))) rfl ?_
        refine WL.nil ?_
        refine WX.thenC ?_
        refine WC.seq ?_
        refine WC.condT rfl ?_
        refine WC.skip ?_
        refine WX.thenC ?_
        refine WC.seq ?_
        refine WC.block ?_
        refine WC.seq ?_
        refine WC.region ?_
        refine WL.val (Val.indexAddr rfl rfl (by omega) (by omega)) rfl ?_
        refine WL.val (Val.loadO 1 rfl rfl rfl) rfl ?_
        (refine WL.alloc rfl ?_; intro _)
        refine WL.nApp ?_
        refine WL.store 4 rfl rfl rfl ?_
        refine WL.nSet ?_
        refine WL.nil ?_
        refine WX.thenC ?_
        refine WC.region ?_
        refine WL.val (Val.moveP rfl) rfl ?_
        refine WL.val (Val.loadO 4 rfl rfl rfl) rfl ?_
        refine WL.callP [2, 2] rfl rfl (opoint_ctr o s.p1 sv' bad' _ _ hs.2.2.1 hb1) rfl ?_
        rintro _ I6 _ hI6 ⟨sv6, rfl⟩
        refine WL.nApp ?_
        refine WL.nil ?_
        refine WX.inNormal ?_
        refine WX.thenC ?_
        refine WC.region ?_
        refine WL.val (Val.add rfl rfl (wrap_i64 (by omega) (by omega))) rfl ?_
        refine WL.val (Val.moveI rfl) rfl ?_
        refine WL.nil ?_
        refine WX.conv (fun w h => h.sub [0, 0, 1, 1] rfl) ?_
        exact WX.thenK (WK.round (need s.kind - 2) (by omega) ⟨2, sv6, rfl, by omega, hI5.trans hI6, rfl, rfl, rfl, rfl, by rw [hs', ← List.append_assoc]; rfl⟩)
      · skip
        refine WC.seq ?_
        refine WC.region ?_
        refine WL.val (Val.lss rfl rfl (decide_eq_true (by omega))) rfl ?_
        refine WL.nil ?_
        refine WX.thenC ?_
        refine WC.seq ?_
        refine WC.condT rfl ?_
        refine WC.skip ?_
        refine WX.thenC ?_
        refine WC.seq ?_
        refine WC.block ?_
        refine WC.seq ?_
        refine WC.region ?_
        refine WL.val (Val.indexAddr rfl rfl (by omega) (by omega)) rfl ?_
        refine WL.val (Val.loadO 1 rfl rfl rfl) rfl ?_
        (refine WL.alloc rfl ?_; intro _)
        refine WL.nApp ?_
        refine WL.store 4 rfl rfl rfl ?_
        refine WL.nSet ?_
        refine WL.nil ?_
        refine WX.thenC ?_
        refine WC.region ?_
        refine WL.val (Val.moveP rfl) rfl ?_
        refine WL.val (Val.loadO 4 rfl rfl rfl) rfl ?_
        refine WL.callP [2, 2] rfl rfl (opoint_ctr o s.p2 sv' bad' _ _ hs.2.2.2 hb1) rfl ?_
        rintro _ I6 _ hI6 ⟨sv6, rfl⟩
        refine WL.nApp ?_
        refine WL.nil ?_
        refine WX.inNormal ?_
        refine WX.thenC ?_
        refine WC.region ?_
        refine WL.val (Val.add rfl rfl (wrap_i64 (by omega) (by omega))) rfl ?_
        refine WL.val (Val.moveI rfl) rfl ?_
        refine WL.nil ?_
        refine WX.conv (fun w h => h.sub [0, 0, 1, 1] rfl) ?_
        exact WX.thenK (WK.round (need s.kind - 3) (by omega) ⟨3, sv6, rfl, by omega, hI5.trans hI6, rfl, rfl, rfl, rfl, by rw [hs', ← List.append_assoc]; rfl⟩)
    · skip
      refine WC.seq ?_
      refine WC.region ?_
      refine WL.val (Val.lss rfl rfl (decide_eq_false (by omega))) rfl ?_
      refine WL.nil ?_
      refine WX.thenC ?_
      refine WC.seq ?_
      refine WC.condF rfl ?_
      refine WC.exit ?_
      refine WX.thenExit ?_
      refine WX.thenExit ?_
      refine WX.inHit ?_
      apply WX.doneN (ks := [1, 1])
      case hres => exact RunRes.r0 rfl
      case hp => rfl
      case hI => first | exact Mem.le.refl _ | assumption
      obtain rfl : k = need s.kind := by omega
      exact ⟨sv', by rw [hw]⟩
end Go.Proofs.YtfdeckdongonnaaDoor
