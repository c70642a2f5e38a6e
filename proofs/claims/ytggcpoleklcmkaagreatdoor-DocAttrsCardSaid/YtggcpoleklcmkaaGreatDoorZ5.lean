/-
  Drawings, the walks: styles that are right.
-/
import Derived.Test.YtggcpoleklcmkaaGreatDoorZ4
import Derived.Test.YtggcpoleklcmkaaGreatDoorX5
import Derived.Test.YtggcpoleklcmkaaGreatDoorX3
import Derived.Test.YtggcpoleklcmkaaGreatDoorX2
import Derived.Test.YtggcpoleklcmkaaGreatDoorZ1
namespace Go.Proofs.YtggcpoleklcmkaaGreatDoor
open Go.Sl Go.Ls Go.Dc
set_option maxRecDepth 100000
set_option maxHeartbeats 4000000
set_option linter.unusedVariables false
set_option linter.unusedSimpArgs false
attribute [local irreducible] WC WL WX WK WA WAK Val Ctr RunRes ResIs Rd At sl box pt Exit.then Exit.inBlock bodyPost Code.wp wpList
theorem sty_ctr (s : Sty) (t u d : Value) (I : Mem) (hs : s.at_ I t u d) : Ctr Tryz.prog 17 [.agg (s.cs t u d).toArray] I [] (Still I fun r => r = vi s.check) := by
  have hf := hs.fill
  have hp := hs.pen
  have hd := hs.dash
  obtain ⟨a1, c1, a2, c2, a3, c3, rfl, rfl, rfl⟩ := hs.sl
  clear hs
  refine Ctr.intro Tryz.func17 rfl rfl rfl fun E F => ?_
  refine WC.seq ?_
  refine WC.region ?_
  (refine WL.boxA rfl rfl ?_; intro _)
  refine WL.nApp ?_
  refine WL.val (Val.assignI rfl) rfl ?_
  refine WL.nil ?_
  refine WX.thenC ?_
  refine WC.seq ?_
  refine WC.seq ?_
  refine WC.region ?_
  refine WL.val (Val.fldAddr rfl) rfl ?_
  refine WL.val (Val.ldO 1 rfl rfl rfl) rfl ?_
  refine WL.val (Val.fldAddr rfl) rfl ?_
  refine WL.val (Val.ldO 1 rfl rfl rfl) rfl ?_
  (refine WL.buildSlice (by with_unfolding_all exact rfl) rfl (by with_unfolding_all exact rfl) rfl ?_; intro _)
  refine WL.nApp ?_
  refine WL.val (Val.len rfl) rfl ?_
  refine WL.val (Val.moveI rfl) rfl ?_
  refine WL.nil ?_
  refine WX.thenC ?_
  refine WC.block ?_
  rename_i g1 g2
  refine WC.loop (fun n ρ' I' L' => ∃ k : Nat, n = 2 - k ∧ k ≤ 2 ∧ I' = I ∧ ρ' 1 = ptr g1 ∧ ρ' 12 = .slice (some ⟨g2, 0, none⟩) 2 2 ∧ ρ' 13 = vi 2 ∧ ρ' 14 = vi k ∧ L' = [F, box g1 35 (s.cs (Value.slice a1 s.fill.stops.length c1) (Value.slice a2 s.pen.stops.length c2) (Value.slice a3 s.dash.length c3)), box g2 30 [vi s.fill.kind, byt s.fill.col.r, byt s.fill.col.g, byt s.fill.col.b, byt s.fill.col.a, vi s.fill.frm.x, vi s.fill.frm.y, vi s.fill.to.x, vi s.fill.to.y, Value.slice a1 s.fill.stops.length c1, vi s.pen.kind, byt s.pen.col.r, byt s.pen.col.g, byt s.pen.col.b, byt s.pen.col.a, vi s.pen.frm.x, vi s.pen.frm.y, vi s.pen.to.x, vi s.pen.to.y, Value.slice a2 s.pen.stops.length c2]] ∧ (0 < k → s.fill.check = 0) ∧ (1 < k → s.pen.check = 0))
    2 ⟨0, rfl, by omega, rfl, rfl, rfl, rfl, rfl, rfl, fun h => by omega, fun h => by omega⟩ ?_
  rintro n ρ' I0 L' ⟨k, rfl, hk, rfl, r1, r12, r13, r14, rfl, q0, q1⟩
  rw [← upd_self r14, ← upd_self r13, ← upd_self r12, ← upd_self r1]
  clear r14 r13 r12 r1
  have hcase : k = 0 ∨ k = 1 ∨ k = 2 := by omega
  rcases hcase with rfl | rfl | rfl
  · skip
    refine WC.seq ?_
    refine WC.region ?_
    refine WL.val (Val.lss rfl rfl (decide_eq_true (by omega))) rfl ?_
    refine WL.nil ?_
    refine WX.thenC ?_
    refine WC.seq ?_
    refine WC.condT rfl ?_
    refine WC.skip ?_
    refine WX.thenC ?_
    refine WC.seq ?_
    refine WC.block ?_
    refine WC.seq ?_
    refine WC.region ?_
    refine WL.val (Val.indexAddr rfl rfl (by omega) (by omega)) rfl ?_
    refine WL.val (Val.loadO 2 rfl rfl rfl) rfl ?_
    (refine WL.alloc rfl ?_; intro _)
    refine WL.nApp ?_
    refine WL.store 3 rfl rfl rfl ?_
    refine WL.nSet ?_
    refine WL.nil ?_
    refine WX.thenC ?_
    refine WC.seq ?_
    refine WC.region ?_
    refine WL.val (Val.loadO 3 rfl rfl rfl) rfl ?_
    refine WL.callS rfl rfl (pnt_ctr s.fill _ _ hf) rfl ?_
    rintro _ rfl
    by_cases hq : s.fill.check = 0
    · skip
      refine WL.val (Val.assignI rfl) rfl ?_
      refine WL.nil ?_
      refine WX.thenC ?_
      refine WC.seq ?_
      refine WC.region ?_
      refine WL.val (Val.moveI rfl) rfl ?_
      refine WL.val (Val.neq rfl rfl (bne_eq_false_iff_eq.2 (by omega))) rfl ?_
      refine WL.nil ?_
      refine WX.thenC ?_
      refine WC.condF rfl ?_
      refine WC.skip ?_
      refine WX.inNormal ?_
      refine WX.thenC ?_
      refine WC.region ?_
      refine WL.val (Val.add rfl rfl (wrap_i64 (by omega) (by omega))) rfl ?_
      refine WL.val (Val.moveI rfl) rfl ?_
      refine WL.nil ?_
      refine WX.conv (fun w h => h.sub [0, 0, 0] rfl) ?_
      exact WX.thenK (WK.round 1 (by omega) ⟨1, rfl, by omega, rfl, rfl, rfl, rfl, rfl, rfl, fun _ => hq, fun h => by omega⟩)
    · skip
      refine WL.val (Val.assignI rfl) rfl ?_
      refine WL.nil ?_
      refine WX.thenC ?_
      refine WC.seq ?_
      refine WC.region ?_
      refine WL.val (Val.moveI rfl) rfl ?_
      refine WL.val (Val.neq rfl rfl (bne_iff_ne.2 (by omega))) rfl ?_
      refine WL.nil ?_
      refine WX.thenC ?_
      refine WC.condT rfl ?_
      refine WC.seq ?_
      refine WC.region ?_
      refine WL.val (Val.moveI rfl) rfl ?_
      refine WL.val (Val.assignI rfl) rfl ?_
      refine WL.nil ?_
      refine WX.thenC ?_
      refine WC.ret ?_
      refine WX.inRet ?_
      refine WX.thenRet ?_
      refine WX.thenRet ?_
      refine WX.inRet ?_
      refine WX.thenRet ?_
      apply WX.doneP (ks := [])
      case hres => exact RunRes.r1 rfl (ResIs.tmpI rfl)
      case hI => first | exact Mem.le.refl _ | assumption
      exact ⟨rfl, rfl, by rw [Sty.check, if_pos hq]⟩
  · have q0' := q0 (by omega)
    refine WC.seq ?_
    refine WC.region ?_
    refine WL.val (Val.lss rfl rfl (decide_eq_true (by omega))) rfl ?_
    refine WL.nil ?_
    refine WX.thenC ?_
    refine WC.seq ?_
    refine WC.condT rfl ?_
    refine WC.skip ?_
    refine WX.thenC ?_
    refine WC.seq ?_
    refine WC.block ?_
    refine WC.seq ?_
    refine WC.region ?_
    refine WL.val (Val.indexAddr rfl rfl (by omega) (by omega)) rfl ?_
    refine WL.val (Val.loadO 2 rfl rfl rfl) rfl ?_
    (refine WL.alloc rfl ?_; intro _)
    refine WL.nApp ?_
    refine WL.store 3 rfl rfl rfl ?_
    refine WL.nSet ?_
    refine WL.nil ?_
    refine WX.thenC ?_
    refine WC.seq ?_
    refine WC.region ?_
    refine WL.val (Val.loadO 3 rfl rfl rfl) rfl ?_
    refine WL.callS rfl rfl (pnt_ctr s.pen _ _ hp) rfl ?_
    rintro _ rfl
    by_cases hq : s.pen.check = 0
    · skip
      refine WL.val (Val.assignI rfl) rfl ?_
      refine WL.nil ?_
      refine WX.thenC ?_
      refine WC.seq ?_
      refine WC.region ?_
      refine WL.val (Val.moveI rfl) rfl ?_
      refine WL.val (Val.neq rfl rfl (bne_eq_false_iff_eq.2 (by omega))) rfl ?_
      refine WL.nil ?_
      refine WX.thenC ?_
      refine WC.condF rfl ?_
      refine WC.skip ?_
      refine WX.inNormal ?_
      refine WX.thenC ?_
      refine WC.region ?_
      refine WL.val (Val.add rfl rfl (wrap_i64 (by omega) (by omega))) rfl ?_
      refine WL.val (Val.moveI rfl) rfl ?_
      refine WL.nil ?_
      refine WX.conv (fun w h => h.sub [0, 0, 0] rfl) ?_
      exact WX.thenK (WK.round 0 (by omega) ⟨2, rfl, by omega, rfl, rfl, rfl, rfl, rfl, rfl, fun _ => q0', fun _ => hq⟩)
    · skip
      refine WL.val (Val.assignI rfl) rfl ?_
      refine WL.nil ?_
      refine WX.thenC ?_
      refine WC.seq ?_
      refine WC.region ?_
      refine WL.val (Val.moveI rfl) rfl ?_
      refine WL.val (Val.neq rfl rfl (bne_iff_ne.2 (by omega))) rfl ?_
      refine WL.nil ?_
      refine WX.thenC ?_
      refine WC.condT rfl ?_
      refine WC.seq ?_
      refine WC.region ?_
      refine WL.val (Val.moveI rfl) rfl ?_
      refine WL.val (Val.assignI rfl) rfl ?_
      refine WL.nil ?_
      refine WX.thenC ?_
      refine WC.ret ?_
      refine WX.inRet ?_
      refine WX.thenRet ?_
      refine WX.thenRet ?_
      refine WX.inRet ?_
      refine WX.thenRet ?_
      apply WX.doneP (ks := [])
      case hres => exact RunRes.r1 rfl (ResIs.tmpI rfl)
      case hI => first | exact Mem.le.refl _ | assumption
      exact ⟨rfl, rfl, by rw [Sty.check, if_neg (fun e => e q0'), if_pos hq]⟩
  have hc : s.check = if ¬ s.nums then 30 else dashCheck s.dash s.phase := by
    rw [Sty.check, if_neg (fun e => e (q0 (by omega))), if_neg (fun e => e (q1 (by omega)))]
  rw [hc]
  clear hc
  refine WC.seq ?_
  refine WC.region ?_
  refine WL.val (Val.lss rfl rfl (decide_eq_false (by omega))) rfl ?_
  refine WL.nil ?_
  refine WX.thenC ?_
  refine WC.seq ?_
  refine WC.condF rfl ?_
  refine WC.exit ?_
  refine WX.thenExit ?_
  refine WX.thenExit ?_
  refine WX.inHit ?_
  refine WX.thenC ?_
  refine WC.seq ?_
  refine WC.seq ?_
  refine WC.region ?_
  refine WL.val (Val.fldAddr rfl) rfl ?_
  refine WL.val (Val.loadS rfl (Rd.own1 1 rfl rfl)) rfl ?_
  refine WL.val (Val.build (cs := [vi s.rule, vi 1, vi 2]) rfl) rfl ?_
  refine WL.val (Val.fldAddr rfl) rfl ?_
  refine WL.val (Val.loadS rfl (Rd.own1 1 rfl rfl)) rfl ?_
  refine WL.val (Val.build (cs := [vi s.half, vi 0, vi 32768]) rfl) rfl ?_
  refine WL.val (Val.fldAddr rfl) rfl ?_
  refine WL.val (Val.loadS rfl (Rd.own1 1 rfl rfl)) rfl ?_
  refine WL.val (Val.build (cs := [vi s.cap, vi 0, vi 2]) rfl) rfl ?_
  refine WL.val (Val.fldAddr rfl) rfl ?_
  refine WL.val (Val.loadS rfl (Rd.own1 1 rfl rfl)) rfl ?_
  refine WL.val (Val.build (cs := [vi s.opac, vi 0, vi 255]) rfl) rfl ?_
  refine WL.val (Val.fldAddr rfl) rfl ?_
  refine WL.val (Val.loadS rfl (Rd.own1 1 rfl rfl)) rfl ?_
  refine WL.val (Val.build (cs := [vi s.mode, vi 0, vi 4]) rfl) rfl ?_
  (refine WL.buildSlice (by with_unfolding_all exact rfl) rfl (by with_unfolding_all exact rfl) rfl ?_; intro _)
  refine WL.nApp ?_
  refine WL.val (Val.len rfl) rfl ?_
  refine WL.val (Val.moveI rfl) rfl ?_
  refine WL.nil ?_
  refine WX.thenC ?_
  refine WC.block ?_
  rename_i g3
  refine WC.conv (fun w h => h.sub [0, 0, 1] rfl) ?_
  refine WC.loop (fun n ρ' I' L' => ∃ k : Nat, n = 5 - k ∧ k ≤ 5 ∧ I' = I0 ∧ ρ' 1 = ptr g1 ∧ ρ' 39 = .slice (some ⟨g3, 0, none⟩) 5 5 ∧ ρ' 40 = vi 5 ∧ ρ' 41 = vi k ∧ L' = [F, box g1 35 (s.cs (Value.slice a1 s.fill.stops.length c1) (Value.slice a2 s.pen.stops.length c2) (Value.slice a3 s.dash.length c3)), box g3 118 [vi s.rule, vi 1, vi 2, vi s.half, vi 0, vi 32768, vi s.cap, vi 0, vi 2, vi s.opac, vi 0, vi 255, vi s.mode, vi 0, vi 4]] ∧ (0 < k → 1 ≤ s.rule ∧ s.rule ≤ 2) ∧ (1 < k → 0 ≤ s.half ∧ s.half ≤ 32768) ∧ (2 < k → 0 ≤ s.cap ∧ s.cap ≤ 2) ∧ (3 < k → 0 ≤ s.opac ∧ s.opac ≤ 255) ∧ (4 < k → 0 ≤ s.mode ∧ s.mode ≤ 4))
    5 ⟨0, rfl, by omega, rfl, rfl, rfl, rfl, rfl, rfl, fun h => by omega, fun h => by omega, fun h => by omega, fun h => by omega, fun h => by omega⟩ ?_
  rintro n ρ' I1 L' ⟨k, rfl, hk5, rfl, r1, r39, r40, r41, rfl, q0, q1, q2, q3, q4⟩
  rw [← upd_self r41, ← upd_self r40, ← upd_self r39, ← upd_self r1]
  clear r41 r40 r39 r1
  have hcase : k = 0 ∨ k = 1 ∨ k = 2 ∨ k = 3 ∨ k = 4 ∨ k = 5 := by omega
  rcases hcase with rfl | rfl | rfl | rfl | rfl | rfl
  · by_cases hq : 1 ≤ s.rule ∧ s.rule ≤ 2
    · skip
      refine WC.seq ?_
      refine WC.region ?_
      refine WL.val (Val.lss rfl rfl (decide_eq_true (by omega))) rfl ?_
      refine WL.nil ?_
      refine WX.thenC ?_
      refine WC.seq ?_
      refine WC.condT rfl ?_
      refine WC.skip ?_
      refine WX.thenC ?_
      refine WC.seq ?_
      refine WC.block ?_
      refine WC.seq ?_
      refine WC.region ?_
      refine WL.val (Val.indexAddr rfl rfl (by omega) (by omega)) rfl ?_
      refine WL.val (Val.loadO 2 rfl rfl rfl) rfl ?_
      (refine WL.alloc rfl ?_; intro _)
      refine WL.nApp ?_
      refine WL.store 3 rfl rfl rfl ?_
      refine WL.nSet ?_
      refine WL.nil ?_
      refine WX.thenC ?_
      refine WC.seq ?_
      refine WC.region ?_
      refine WL.val (Val.fldAddr rfl) rfl ?_
      refine WL.val (Val.loadS rfl (Rd.own1 3 rfl rfl)) rfl ?_
      refine WL.val (Val.fldAddr rfl) rfl ?_
      refine WL.val (Val.loadS rfl (Rd.own1 3 rfl rfl)) rfl ?_
      refine WL.val (Val.lss rfl rfl (decide_eq_false (by omega))) rfl ?_
      refine WL.val (Val.moveB rfl) rfl ?_
      refine WL.gT rfl rfl ?_
      refine WL.val (Val.fldAddr rfl) rfl ?_
      refine WL.gT rfl rfl ?_
      refine WL.val (Val.loadS rfl (Rd.own1 3 rfl rfl)) rfl ?_
      refine WL.gT rfl rfl ?_
      refine WL.val (Val.fldAddr rfl) rfl ?_
      refine WL.gT rfl rfl ?_
      refine WL.val (Val.loadS rfl (Rd.own1 3 rfl rfl)) rfl ?_
      refine WL.gT rfl rfl ?_
      refine WL.val (Val.gtr rfl rfl (decide_eq_false (by omega))) rfl ?_
      refine WL.val (Val.pick rfl) rfl ?_
      refine WL.nil ?_
      refine WX.thenC ?_
      refine WC.condF rfl ?_
      refine WC.skip ?_
      refine WX.inNormal ?_
      refine WX.thenC ?_
      refine WC.region ?_
      refine WL.val (Val.add rfl rfl (wrap_i64 (by omega) (by omega))) rfl ?_
      refine WL.val (Val.moveI rfl) rfl ?_
      refine WL.nil ?_
      refine WX.conv (fun w h => h.sub [0, 0, 0] rfl) ?_
      exact WX.thenK (WK.round 4 (by omega) ⟨1, rfl, by omega, rfl, rfl, rfl, rfl, rfl, rfl, fun _ => hq, fun h => by omega, fun h => by omega, fun h => by omega, fun h => by omega⟩)
    · rw [if_pos (fun e => hq e.1)]
      refine WC.seq ?_
      refine WC.region ?_
      refine WL.val (Val.lss rfl rfl (decide_eq_true (by omega))) rfl ?_
      refine WL.nil ?_
      refine WX.thenC ?_
      refine WC.seq ?_
      refine WC.condT rfl ?_
      refine WC.skip ?_
      refine WX.thenC ?_
      refine WC.seq ?_
      refine WC.block ?_
      refine WC.seq ?_
      refine WC.region ?_
      refine WL.val (Val.indexAddr rfl rfl (by omega) (by omega)) rfl ?_
      refine WL.val (Val.loadO 2 rfl rfl rfl) rfl ?_
      (refine WL.alloc rfl ?_; intro _)
      refine WL.nApp ?_
      refine WL.store 3 rfl rfl rfl ?_
      refine WL.nSet ?_
      refine WL.nil ?_
      refine WX.thenC ?_
      refine WC.seq ?_
      refine WC.region ?_
      refine WL.val (Val.fldAddr rfl) rfl ?_
      refine WL.val (Val.loadS rfl (Rd.own1 3 rfl rfl)) rfl ?_
      refine WL.val (Val.fldAddr rfl) rfl ?_
      refine WL.val (Val.loadS rfl (Rd.own1 3 rfl rfl)) rfl ?_
      refine WL.ltI rfl rfl rfl (fun h => ?_) (fun h => ?_)
      refine WL.val (Val.moveB rfl) rfl ?_
      refine WL.gF rfl rfl rfl rfl ?_
      refine WL.gF rfl rfl rfl rfl ?_
      refine WL.gF rfl rfl rfl rfl ?_
      refine WL.gF rfl rfl rfl rfl ?_
      refine WL.gF rfl rfl rfl rfl ?_
      refine WL.val (Val.pick rfl) rfl ?_
      refine WL.nil ?_
      refine WX.thenC ?_
      refine WC.condT rfl ?_
      refine WC.seq ?_
      refine WC.region ?_
      refine WL.val (Val.assignI rfl) rfl ?_
      refine WL.nil ?_
      refine WX.thenC ?_
      refine WC.ret ?_
      refine WX.inRet ?_
      refine WX.thenRet ?_
      refine WX.thenRet ?_
      refine WX.inRet ?_
      refine WX.thenRet ?_
      rotate_left
      refine WL.val (Val.moveB rfl) rfl ?_
      refine WL.gT rfl rfl ?_
      refine WL.val (Val.fldAddr rfl) rfl ?_
      refine WL.gT rfl rfl ?_
      refine WL.val (Val.loadS rfl (Rd.own1 3 rfl rfl)) rfl ?_
      refine WL.gT rfl rfl ?_
      refine WL.val (Val.fldAddr rfl) rfl ?_
      refine WL.gT rfl rfl ?_
      refine WL.val (Val.loadS rfl (Rd.own1 3 rfl rfl)) rfl ?_
      refine WL.gT rfl rfl ?_
      refine WL.val (Val.gtr rfl rfl (decide_eq_true (by omega))) rfl ?_
      refine WL.val (Val.pick rfl) rfl ?_
      refine WL.nil ?_
      refine WX.thenC ?_
      refine WC.condT rfl ?_
      refine WC.seq ?_
      refine WC.region ?_
      refine WL.val (Val.assignI rfl) rfl ?_
      refine WL.nil ?_
      refine WX.thenC ?_
      refine WC.ret ?_
      refine WX.inRet ?_
      refine WX.thenRet ?_
      refine WX.thenRet ?_
      refine WX.inRet ?_
      refine WX.thenRet ?_
      rotate_left
      all_goals
        apply WX.doneP (ks := [])
        case hres => exact RunRes.r1 rfl (ResIs.tmpI rfl)
        case hI => first | exact Mem.le.refl _ | assumption
      all_goals exact ⟨rfl, rfl, rfl⟩
  · by_cases hq : 0 ≤ s.half ∧ s.half ≤ 32768
    · skip
      refine WC.seq ?_
      refine WC.region ?_
      refine WL.val (Val.lss rfl rfl (decide_eq_true (by omega))) rfl ?_
      refine WL.nil ?_
      refine WX.thenC ?_
      refine WC.seq ?_
      refine WC.condT rfl ?_
      refine WC.skip ?_
      refine WX.thenC ?_
      refine WC.seq ?_
      refine WC.block ?_
      refine WC.seq ?_
      refine WC.region ?_
      refine WL.val (Val.indexAddr rfl rfl (by omega) (by omega)) rfl ?_
      refine WL.val (Val.loadO 2 rfl rfl rfl) rfl ?_
      (refine WL.alloc rfl ?_; intro _)
      refine WL.nApp ?_
      refine WL.store 3 rfl rfl rfl ?_
      refine WL.nSet ?_
      refine WL.nil ?_
      refine WX.thenC ?_
      refine WC.seq ?_
      refine WC.region ?_
      refine WL.val (Val.fldAddr rfl) rfl ?_
      refine WL.val (Val.loadS rfl (Rd.own1 3 rfl rfl)) rfl ?_
      refine WL.val (Val.fldAddr rfl) rfl ?_
      refine WL.val (Val.loadS rfl (Rd.own1 3 rfl rfl)) rfl ?_
      refine WL.val (Val.lss rfl rfl (decide_eq_false (by omega))) rfl ?_
      refine WL.val (Val.moveB rfl) rfl ?_
      refine WL.gT rfl rfl ?_
      refine WL.val (Val.fldAddr rfl) rfl ?_
      refine WL.gT rfl rfl ?_
      refine WL.val (Val.loadS rfl (Rd.own1 3 rfl rfl)) rfl ?_
      refine WL.gT rfl rfl ?_
      refine WL.val (Val.fldAddr rfl) rfl ?_
      refine WL.gT rfl rfl ?_
      refine WL.val (Val.loadS rfl (Rd.own1 3 rfl rfl)) rfl ?_
      refine WL.gT rfl rfl ?_
      refine WL.val (Val.gtr rfl rfl (decide_eq_false (by omega))) rfl ?_
      refine WL.val (Val.pick rfl) rfl ?_
      refine WL.nil ?_
      refine WX.thenC ?_
      refine WC.condF rfl ?_
      refine WC.skip ?_
      refine WX.inNormal ?_
      refine WX.thenC ?_
      refine WC.region ?_
      refine WL.val (Val.add rfl rfl (wrap_i64 (by omega) (by omega))) rfl ?_
      refine WL.val (Val.moveI rfl) rfl ?_
      refine WL.nil ?_
      refine WX.conv (fun w h => h.sub [0, 0, 0] rfl) ?_
      exact WX.thenK (WK.round 3 (by omega) ⟨2, rfl, by omega, rfl, rfl, rfl, rfl, rfl, rfl, fun _ => q0 (by omega), fun _ => hq, fun h => by omega, fun h => by omega, fun h => by omega⟩)
    · rw [if_pos (fun e => hq e.2.1)]
      refine WC.seq ?_
      refine WC.region ?_
      refine WL.val (Val.lss rfl rfl (decide_eq_true (by omega))) rfl ?_
      refine WL.nil ?_
      refine WX.thenC ?_
      refine WC.seq ?_
      refine WC.condT rfl ?_
      refine WC.skip ?_
      refine WX.thenC ?_
      refine WC.seq ?_
      refine WC.block ?_
      refine WC.seq ?_
      refine WC.region ?_
      refine WL.val (Val.indexAddr rfl rfl (by omega) (by omega)) rfl ?_
      refine WL.val (Val.loadO 2 rfl rfl rfl) rfl ?_
      (refine WL.alloc rfl ?_; intro _)
      refine WL.nApp ?_
      refine WL.store 3 rfl rfl rfl ?_
      refine WL.nSet ?_
      refine WL.nil ?_
      refine WX.thenC ?_
      refine WC.seq ?_
      refine WC.region ?_
      refine WL.val (Val.fldAddr rfl) rfl ?_
      refine WL.val (Val.loadS rfl (Rd.own1 3 rfl rfl)) rfl ?_
      refine WL.val (Val.fldAddr rfl) rfl ?_
      refine WL.val (Val.loadS rfl (Rd.own1 3 rfl rfl)) rfl ?_
      refine WL.ltI rfl rfl rfl (fun h => ?_) (fun h => ?_)
      refine WL.val (Val.moveB rfl) rfl ?_
      refine WL.gF rfl rfl rfl rfl ?_
      refine WL.gF rfl rfl rfl rfl ?_
      refine WL.gF rfl rfl rfl rfl ?_
      refine WL.gF rfl rfl rfl rfl ?_
      refine WL.gF rfl rfl rfl rfl ?_
      refine WL.val (Val.pick rfl) rfl ?_
      refine WL.nil ?_
      refine WX.thenC ?_
      refine WC.condT rfl ?_
      refine WC.seq ?_
      refine WC.region ?_
      refine WL.val (Val.assignI rfl) rfl ?_
      refine WL.nil ?_
      refine WX.thenC ?_
      refine WC.ret ?_
      refine WX.inRet ?_
      refine WX.thenRet ?_
      refine WX.thenRet ?_
      refine WX.inRet ?_
      refine WX.thenRet ?_
      rotate_left
      refine WL.val (Val.moveB rfl) rfl ?_
      refine WL.gT rfl rfl ?_
      refine WL.val (Val.fldAddr rfl) rfl ?_
      refine WL.gT rfl rfl ?_
      refine WL.val (Val.loadS rfl (Rd.own1 3 rfl rfl)) rfl ?_
      refine WL.gT rfl rfl ?_
      refine WL.val (Val.fldAddr rfl) rfl ?_
      refine WL.gT rfl rfl ?_
      refine WL.val (Val.loadS rfl (Rd.own1 3 rfl rfl)) rfl ?_
      refine WL.gT rfl rfl ?_
      refine WL.val (Val.gtr rfl rfl (decide_eq_true (by omega))) rfl ?_
      refine WL.val (Val.pick rfl) rfl ?_
      refine WL.nil ?_
      refine WX.thenC ?_
      refine WC.condT rfl ?_
      refine WC.seq ?_
      refine WC.region ?_
      refine WL.val (Val.assignI rfl) rfl ?_
      refine WL.nil ?_
      refine WX.thenC ?_
      refine WC.ret ?_
      refine WX.inRet ?_
      refine WX.thenRet ?_
      refine WX.thenRet ?_
      refine WX.inRet ?_
      refine WX.thenRet ?_
      rotate_left
      all_goals
        apply WX.doneP (ks := [])
        case hres => exact RunRes.r1 rfl (ResIs.tmpI rfl)
        case hI => first | exact Mem.le.refl _ | assumption
      all_goals exact ⟨rfl, rfl, rfl⟩
  · by_cases hq : 0 ≤ s.cap ∧ s.cap ≤ 2
    · skip
      refine WC.seq ?_
      refine WC.region ?_
      refine WL.val (Val.lss rfl rfl (decide_eq_true (by omega))) rfl ?_
      refine WL.nil ?_
      refine WX.thenC ?_
      refine WC.seq ?_
      refine WC.condT rfl ?_
      refine WC.skip ?_
      refine WX.thenC ?_
      refine WC.seq ?_
      refine WC.block ?_
      refine WC.seq ?_
      refine WC.region ?_
      refine WL.val (Val.indexAddr rfl rfl (by omega) (by omega)) rfl ?_
      refine WL.val (Val.loadO 2 rfl rfl rfl) rfl ?_
      (refine WL.alloc rfl ?_; intro _)
      refine WL.nApp ?_
      refine WL.store 3 rfl rfl rfl ?_
      refine WL.nSet ?_
      refine WL.nil ?_
      refine WX.thenC ?_
      refine WC.seq ?_
      refine WC.region ?_
      refine WL.val (Val.fldAddr rfl) rfl ?_
      refine WL.val (Val.loadS rfl (Rd.own1 3 rfl rfl)) rfl ?_
      refine WL.val (Val.fldAddr rfl) rfl ?_
      refine WL.val (Val.loadS rfl (Rd.own1 3 rfl rfl)) rfl ?_
      refine WL.val (Val.lss rfl rfl (decide_eq_false (by omega))) rfl ?_
      refine WL.val (Val.moveB rfl) rfl ?_
      refine WL.gT rfl rfl ?_
      refine WL.val (Val.fldAddr rfl) rfl ?_
      refine WL.gT rfl rfl ?_
      refine WL.val (Val.loadS rfl (Rd.own1 3 rfl rfl)) rfl ?_
      refine WL.gT rfl rfl ?_
      refine WL.val (Val.fldAddr rfl) rfl ?_
      refine WL.gT rfl rfl ?_
      refine WL.val (Val.loadS rfl (Rd.own1 3 rfl rfl)) rfl ?_
      refine WL.gT rfl rfl ?_
      refine WL.val (Val.gtr rfl rfl (decide_eq_false (by omega))) rfl ?_
      refine WL.val (Val.pick rfl) rfl ?_
      refine WL.nil ?_
      refine WX.thenC ?_
      refine WC.condF rfl ?_
      refine WC.skip ?_
      refine WX.inNormal ?_
      refine WX.thenC ?_
      refine WC.region ?_
      refine WL.val (Val.add rfl rfl (wrap_i64 (by omega) (by omega))) rfl ?_
      refine WL.val (Val.moveI rfl) rfl ?_
      refine WL.nil ?_
      refine WX.conv (fun w h => h.sub [0, 0, 0] rfl) ?_
      exact WX.thenK (WK.round 2 (by omega) ⟨3, rfl, by omega, rfl, rfl, rfl, rfl, rfl, rfl, fun _ => q0 (by omega), fun _ => q1 (by omega), fun _ => hq, fun h => by omega, fun h => by omega⟩)
    · rw [if_pos (fun e => hq e.2.2.1)]
      refine WC.seq ?_
      refine WC.region ?_
      refine WL.val (Val.lss rfl rfl (decide_eq_true (by omega))) rfl ?_
      refine WL.nil ?_
      refine WX.thenC ?_
      refine WC.seq ?_
      refine WC.condT rfl ?_
      refine WC.skip ?_
      refine WX.thenC ?_
      refine WC.seq ?_
      refine WC.block ?_
      refine WC.seq ?_
      refine WC.region ?_
      refine WL.val (Val.indexAddr rfl rfl (by omega) (by omega)) rfl ?_
      refine WL.val (Val.loadO 2 rfl rfl rfl) rfl ?_
      (refine WL.alloc rfl ?_; intro _)
      refine WL.nApp ?_
      refine WL.store 3 rfl rfl rfl ?_
      refine WL.nSet ?_
      refine WL.nil ?_
      refine WX.thenC ?_
      refine WC.seq ?_
      refine WC.region ?_
      refine WL.val (Val.fldAddr rfl) rfl ?_
      refine WL.val (Val.loadS rfl (Rd.own1 3 rfl rfl)) rfl ?_
      refine WL.val (Val.fldAddr rfl) rfl ?_
      refine WL.val (Val.loadS rfl (Rd.own1 3 rfl rfl)) rfl ?_
      refine WL.ltI rfl rfl rfl (fun h => ?_) (fun h => ?_)
      refine WL.val (Val.moveB rfl) rfl ?_
      refine WL.gF rfl rfl rfl rfl ?_
      refine WL.gF rfl rfl rfl rfl ?_
      refine WL.gF rfl rfl rfl rfl ?_
      refine WL.gF rfl rfl rfl rfl ?_
      refine WL.gF rfl rfl rfl rfl ?_
      refine WL.val (Val.pick rfl) rfl ?_
      refine WL.nil ?_
      refine WX.thenC ?_
      refine WC.condT rfl ?_
      refine WC.seq ?_
      refine WC.region ?_
      refine WL.val (Val.assignI rfl) rfl ?_
      refine WL.nil ?_
      refine WX.thenC ?_
      refine WC.ret ?_
      refine WX.inRet ?_
      refine WX.thenRet ?_
      refine WX.thenRet ?_
      refine WX.inRet ?_
      refine WX.thenRet ?_
      rotate_left
      refine WL.val (Val.moveB rfl) rfl ?_
      refine WL.gT rfl rfl ?_
      refine WL.val (Val.fldAddr rfl) rfl ?_
      refine WL.gT rfl rfl ?_
      refine WL.val (Val.loadS rfl (Rd.own1 3 rfl rfl)) rfl ?_
      refine WL.gT rfl rfl ?_
      refine WL.val (Val.fldAddr rfl) rfl ?_
      refine WL.gT rfl rfl ?_
      refine WL.val (Val.loadS rfl (Rd.own1 3 rfl rfl)) rfl ?_
      refine WL.gT rfl rfl ?_
      refine WL.val (Val.gtr rfl rfl (decide_eq_true (by omega))) rfl ?_
      refine WL.val (Val.pick rfl) rfl ?_
      refine WL.nil ?_
      refine WX.thenC ?_
      refine WC.condT rfl ?_
      refine WC.seq ?_
      refine WC.region ?_
      refine WL.val (Val.assignI rfl) rfl ?_
      refine WL.nil ?_
      refine WX.thenC ?_
      refine WC.ret ?_
      refine WX.inRet ?_
      refine WX.thenRet ?_
      refine WX.thenRet ?_
      refine WX.inRet ?_
      refine WX.thenRet ?_
      rotate_left
      all_goals
        apply WX.doneP (ks := [])
        case hres => exact RunRes.r1 rfl (ResIs.tmpI rfl)
        case hI => first | exact Mem.le.refl _ | assumption
      all_goals exact ⟨rfl, rfl, rfl⟩
  · by_cases hq : 0 ≤ s.opac ∧ s.opac ≤ 255
    · skip
      refine WC.seq ?_
      refine WC.region ?_
      refine WL.val (Val.lss rfl rfl (decide_eq_true (by omega))) rfl ?_
      refine WL.nil ?_
      refine WX.thenC ?_
      refine WC.seq ?_
      refine WC.condT rfl ?_
      refine WC.skip ?_
      refine WX.thenC ?_
      refine WC.seq ?_
      refine WC.block ?_
      refine WC.seq ?_
      refine WC.region ?_
      refine WL.val (Val.indexAddr rfl rfl (by omega) (by omega)) rfl ?_
      refine WL.val (Val.loadO 2 rfl rfl rfl) rfl ?_
      (refine WL.alloc rfl ?_; intro _)
      refine WL.nApp ?_
      refine WL.store 3 rfl rfl rfl ?_
      refine WL.nSet ?_
      refine WL.nil ?_
      refine WX.thenC ?_
      refine WC.seq ?_
      refine WC.region ?_
      refine WL.val (Val.fldAddr rfl) rfl ?_
      refine WL.val (Val.loadS rfl (Rd.own1 3 rfl rfl)) rfl ?_
      refine WL.val (Val.fldAddr rfl) rfl ?_
      refine WL.val (Val.loadS rfl (Rd.own1 3 rfl rfl)) rfl ?_
      refine WL.val (Val.lss rfl rfl (decide_eq_false (by omega))) rfl ?_
      refine WL.val (Val.moveB rfl) rfl ?_
      refine WL.gT rfl rfl ?_
      refine WL.val (Val.fldAddr rfl) rfl ?_
      refine WL.gT rfl rfl ?_
      refine WL.val (Val.loadS rfl (Rd.own1 3 rfl rfl)) rfl ?_
      refine WL.gT rfl rfl ?_
      refine WL.val (Val.fldAddr rfl) rfl ?_
      refine WL.gT rfl rfl ?_
      refine WL.val (Val.loadS rfl (Rd.own1 3 rfl rfl)) rfl ?_
      refine WL.gT rfl rfl ?_
      refine WL.val (Val.gtr rfl rfl (decide_eq_false (by omega))) rfl ?_
      refine WL.val (Val.pick rfl) rfl ?_
      refine WL.nil ?_
      refine WX.thenC ?_
      refine WC.condF rfl ?_
      refine WC.skip ?_
      refine WX.inNormal ?_
      refine WX.thenC ?_
      refine WC.region ?_
      refine WL.val (Val.add rfl rfl (wrap_i64 (by omega) (by omega))) rfl ?_
      refine WL.val (Val.moveI rfl) rfl ?_
      refine WL.nil ?_
      refine WX.conv (fun w h => h.sub [0, 0, 0] rfl) ?_
      exact WX.thenK (WK.round 1 (by omega) ⟨4, rfl, by omega, rfl, rfl, rfl, rfl, rfl, rfl, fun _ => q0 (by omega), fun _ => q1 (by omega), fun _ => q2 (by omega), fun _ => hq, fun h => by omega⟩)
    · rw [if_pos (fun e => hq e.2.2.2.1)]
      refine WC.seq ?_
      refine WC.region ?_
      refine WL.val (Val.lss rfl rfl (decide_eq_true (by omega))) rfl ?_
      refine WL.nil ?_
      refine WX.thenC ?_
      refine WC.seq ?_
      refine WC.condT rfl ?_
      refine WC.skip ?_
      refine WX.thenC ?_
      refine WC.seq ?_
      refine WC.block ?_
      refine WC.seq ?_
      refine WC.region ?_
      refine WL.val (Val.indexAddr rfl rfl (by omega) (by omega)) rfl ?_
      refine WL.val (Val.loadO 2 rfl rfl rfl) rfl ?_
      (refine WL.alloc rfl ?_; intro _)
      refine WL.nApp ?_
      refine WL.store 3 rfl rfl rfl ?_
      refine WL.nSet ?_
      refine WL.nil ?_
      refine WX.thenC ?_
      refine WC.seq ?_
      refine WC.region ?_
      refine WL.val (Val.fldAddr rfl) rfl ?_
      refine WL.val (Val.loadS rfl (Rd.own1 3 rfl rfl)) rfl ?_
      refine WL.val (Val.fldAddr rfl) rfl ?_
      refine WL.val (Val.loadS rfl (Rd.own1 3 rfl rfl)) rfl ?_
      refine WL.ltI rfl rfl rfl (fun h => ?_) (fun h => ?_)
      refine WL.val (Val.moveB rfl) rfl ?_
      refine WL.gF rfl rfl rfl rfl ?_
      refine WL.gF rfl rfl rfl rfl ?_
      refine WL.gF rfl rfl rfl rfl ?_
      refine WL.gF rfl rfl rfl rfl ?_
      refine WL.gF rfl rfl rfl rfl ?_
      refine WL.val (Val.pick rfl) rfl ?_
      refine WL.nil ?_
      refine WX.thenC ?_
      refine WC.condT rfl ?_
      refine WC.seq ?_
      refine WC.region ?_
      refine WL.val (Val.assignI rfl) rfl ?_
      refine WL.nil ?_
      refine WX.thenC ?_
      refine WC.ret ?_
      refine WX.inRet ?_
      refine WX.thenRet ?_
      refine WX.thenRet ?_
      refine WX.inRet ?_
      refine WX.thenRet ?_
      rotate_left
      refine WL.val (Val.moveB rfl) rfl ?_
      refine WL.gT rfl rfl ?_
      refine WL.val (Val.fldAddr rfl) rfl ?_
      refine WL.gT rfl rfl ?_
      refine WL.val (Val.loadS rfl (Rd.own1 3 rfl rfl)) rfl ?_
      refine WL.gT rfl rfl ?_
      refine WL.val (Val.fldAddr rfl) rfl ?_
      refine WL.gT rfl rfl ?_
      refine WL.val (Val.loadS rfl (Rd.own1 3 rfl rfl)) rfl ?_
      refine WL.gT rfl rfl ?_
      refine WL.val (Val.gtr rfl rfl (decide_eq_true (by omega))) rfl ?_
      refine WL.val (Val.pick rfl) rfl ?_
      refine WL.nil ?_
      refine WX.thenC ?_
      refine WC.condT rfl ?_
      refine WC.seq ?_
      refine WC.region ?_
      refine WL.val (Val.assignI rfl) rfl ?_
      refine WL.nil ?_
      refine WX.thenC ?_
      refine WC.ret ?_
      refine WX.inRet ?_
      refine WX.thenRet ?_
      refine WX.thenRet ?_
      refine WX.inRet ?_
      refine WX.thenRet ?_
      rotate_left
      all_goals
        apply WX.doneP (ks := [])
        case hres => exact RunRes.r1 rfl (ResIs.tmpI rfl)
        case hI => first | exact Mem.le.refl _ | assumption
      all_goals exact ⟨rfl, rfl, rfl⟩
  · by_cases hq : 0 ≤ s.mode ∧ s.mode ≤ 4
    · skip
      refine WC.seq ?_
      refine WC.region ?_
      refine WL.val (Val.lss rfl rfl (decide_eq_true (by omega))) rfl ?_
      refine WL.nil ?_
      refine WX.thenC ?_
      refine WC.seq ?_
      refine WC.condT rfl ?_
      refine WC.skip ?_
      refine WX.thenC ?_
      refine WC.seq ?_
      refine WC.block ?_
      refine WC.seq ?_
      refine WC.region ?_
      refine WL.val (Val.indexAddr rfl rfl (by omega) (by omega)) rfl ?_
      refine WL.val (Val.loadO 2 rfl rfl rfl) rfl ?_
      (refine WL.alloc rfl ?_; intro _)
      refine WL.nApp ?_
      refine WL.store 3 rfl rfl rfl ?_
      refine WL.nSet ?_
      refine WL.nil ?_
      refine WX.thenC ?_
      refine WC.seq ?_
      refine WC.region ?_
      refine WL.val (Val.fldAddr rfl) rfl ?_
      refine WL.val (Val.loadS rfl (Rd.own1 3 rfl rfl)) rfl ?_
      refine WL.val (Val.fldAddr rfl) rfl ?_
      refine WL.val (Val.loadS rfl (Rd.own1 3 rfl rfl)) rfl ?_
      refine WL.val (Val.lss rfl rfl (decide_eq_false (by omega))) rfl ?_
      refine WL.val (Val.moveB rfl) rfl ?_
      refine WL.gT rfl rfl ?_
      refine WL.val (Val.fldAddr rfl) rfl ?_
      refine WL.gT rfl rfl ?_
      refine WL.val (Val.loadS rfl (Rd.own1 3 rfl rfl)) rfl ?_
      refine WL.gT rfl rfl ?_
      refine WL.val (Val.fldAddr rfl) rfl ?_
      refine WL.gT rfl rfl ?_
      refine WL.val (Val.loadS rfl (Rd.own1 3 rfl rfl)) rfl ?_
      refine WL.gT rfl rfl ?_
      refine WL.val (Val.gtr rfl rfl (decide_eq_false (by omega))) rfl ?_
      refine WL.val (Val.pick rfl) rfl ?_
      refine WL.nil ?_
      refine WX.thenC ?_
      refine WC.condF rfl ?_
      refine WC.skip ?_
      refine WX.inNormal ?_
      refine WX.thenC ?_
      refine WC.region ?_
      refine WL.val (Val.add rfl rfl (wrap_i64 (by omega) (by omega))) rfl ?_
      refine WL.val (Val.moveI rfl) rfl ?_
      refine WL.nil ?_
      refine WX.conv (fun w h => h.sub [0, 0, 0] rfl) ?_
      exact WX.thenK (WK.round 0 (by omega) ⟨5, rfl, by omega, rfl, rfl, rfl, rfl, rfl, rfl, fun _ => q0 (by omega), fun _ => q1 (by omega), fun _ => q2 (by omega), fun _ => q3 (by omega), fun _ => hq⟩)
    · rw [if_pos (fun e => hq e.2.2.2.2)]
      refine WC.seq ?_
      refine WC.region ?_
      refine WL.val (Val.lss rfl rfl (decide_eq_true (by omega))) rfl ?_
      refine WL.nil ?_
      refine WX.thenC ?_
      refine WC.seq ?_
      refine WC.condT rfl ?_
      refine WC.skip ?_
      refine WX.thenC ?_
      refine WC.seq ?_
      refine WC.block ?_
      refine WC.seq ?_
      refine WC.region ?_
      refine WL.val (Val.indexAddr rfl rfl (by omega) (by omega)) rfl ?_
      refine WL.val (Val.loadO 2 rfl rfl rfl) rfl ?_
      (refine WL.alloc rfl ?_; intro _)
      refine WL.nApp ?_
      refine WL.store 3 rfl rfl rfl ?_
      refine WL.nSet ?_
      refine WL.nil ?_
      refine WX.thenC ?_
      refine WC.seq ?_
      refine WC.region ?_
      refine WL.val (Val.fldAddr rfl) rfl ?_
      refine WL.val (Val.loadS rfl (Rd.own1 3 rfl rfl)) rfl ?_
      refine WL.val (Val.fldAddr rfl) rfl ?_
      refine WL.val (Val.loadS rfl (Rd.own1 3 rfl rfl)) rfl ?_
      refine WL.ltI rfl rfl rfl (fun h => ?_) (fun h => ?_)
      refine WL.val (Val.moveB rfl) rfl ?_
      refine WL.gF rfl rfl rfl rfl ?_
      refine WL.gF rfl rfl rfl rfl ?_
      refine WL.gF rfl rfl rfl rfl ?_
      refine WL.gF rfl rfl rfl rfl ?_
      refine WL.gF rfl rfl rfl rfl ?_
      refine WL.val (Val.pick rfl) rfl ?_
      refine WL.nil ?_
      refine WX.thenC ?_
      refine WC.condT rfl ?_
      refine WC.seq ?_
      refine WC.region ?_
      refine WL.val (Val.assignI rfl) rfl ?_
      refine WL.nil ?_
      refine WX.thenC ?_
      refine WC.ret ?_
      refine WX.inRet ?_
      refine WX.thenRet ?_
      refine WX.thenRet ?_
      refine WX.inRet ?_
      refine WX.thenRet ?_
      rotate_left
      refine WL.val (Val.moveB rfl) rfl ?_
      refine WL.gT rfl rfl ?_
      refine WL.val (Val.fldAddr rfl) rfl ?_
      refine WL.gT rfl rfl ?_
      refine WL.val (Val.loadS rfl (Rd.own1 3 rfl rfl)) rfl ?_
      refine WL.gT rfl rfl ?_
      refine WL.val (Val.fldAddr rfl) rfl ?_
      refine WL.gT rfl rfl ?_
      refine WL.val (Val.loadS rfl (Rd.own1 3 rfl rfl)) rfl ?_
      refine WL.gT rfl rfl ?_
      refine WL.val (Val.gtr rfl rfl (decide_eq_true (by omega))) rfl ?_
      refine WL.val (Val.pick rfl) rfl ?_
      refine WL.nil ?_
      refine WX.thenC ?_
      refine WC.condT rfl ?_
      refine WC.seq ?_
      refine WC.region ?_
      refine WL.val (Val.assignI rfl) rfl ?_
      refine WL.nil ?_
      refine WX.thenC ?_
      refine WC.ret ?_
      refine WX.inRet ?_
      refine WX.thenRet ?_
      refine WX.thenRet ?_
      refine WX.inRet ?_
      refine WX.thenRet ?_
      rotate_left
      all_goals
        apply WX.doneP (ks := [])
        case hres => exact RunRes.r1 rfl (ResIs.tmpI rfl)
        case hI => first | exact Mem.le.refl _ | assumption
      all_goals exact ⟨rfl, rfl, rfl⟩
  · rw [if_neg (fun e => e ⟨q0 (by omega), q1 (by omega), q2 (by omega), q3 (by omega), q4 (by omega)⟩)]
    refine WC.seq ?_
    refine WC.region ?_
    refine WL.val (Val.lss rfl rfl (decide_eq_false (by omega))) rfl ?_
    refine WL.nil ?_
    refine WX.thenC ?_
    refine WC.seq ?_
    refine WC.condF rfl ?_
    refine WC.exit ?_
    refine WX.thenExit ?_
    refine WX.thenExit ?_
    refine WX.inHit ?_
    refine WX.thenC ?_
    refine WC.seq ?_
    refine WC.region ?_
    refine WL.val (Val.fldAddr rfl) rfl ?_
    refine WL.val (Val.ldO 1 rfl rfl rfl) rfl ?_
    refine WL.callS rfl rfl (dash_ctr s.dash s.phase _ _ hd) rfl ?_
    rintro _ rfl
    refine WL.val (Val.assignI rfl) rfl ?_
    refine WL.nil ?_
    refine WX.thenC ?_
    refine WC.ret ?_
    apply WX.doneP (ks := [])
    case hres => exact RunRes.r1 rfl (ResIs.tmpI rfl)
    case hI => first | exact Mem.le.refl _ | assumption
    exact ⟨rfl, rfl, rfl⟩
end Go.Proofs.YtggcpoleklcmkaaGreatDoor

/-
  Drawings, the walks: paths that are right.
-/

namespace Go.Proofs.YtggcpoleklcmkaaGreatDoor
open Go.Sl Go.Ls Go.Dc
set_option maxRecDepth 100000
set_option maxHeartbeats 4000000
set_option linter.unusedVariables false
set_option linter.unusedSimpArgs false
attribute [local irreducible] WC WL WX WK WA WAK Val Ctr RunRes ResIs Rd At sl box pt Exit.then Exit.inBlock bodyPost Code.wp wpList
theorem need_le (k : Int) : need k ≤ 3 := by unfold need; split <;> (try split) <;> (try split) <;> omega
theorem chk1_ctr (p : Pt) (I : Mem) : Ctr Tryz.prog 59 [.agg p.cs.toArray] I [] (Still I (EqP (¬ p.inn))) := by
  refine Ctr.intro Tryz.func59 rfl rfl rfl fun E F => ?_
  refine WC.seq ?_
  refine WC.region ?_
  (refine WL.boxA rfl rfl ?_; intro _)
  refine WL.nApp ?_
  refine WL.val (Val.assignB rfl) rfl ?_
  refine WL.nil ?_
  refine WX.thenC ?_
  refine WC.seq ?_
  refine WC.region ?_
  refine WL.val (Val.ldO 1 rfl rfl rfl) rfl ?_
  refine WL.callE rfl rfl (inn_ctr p _) rfl (fun h => ?_) (fun h => ?_)
  · skip
    refine WL.val (Val.not rfl) rfl ?_
    refine WL.val (Val.assignB rfl) rfl ?_
    refine WL.nil ?_
    refine WX.thenC ?_
    refine WC.ret ?_
    apply WX.doneP (ks := [])
    case hres => exact RunRes.r1 rfl (ResIs.tmpB rfl)
    case hI => first | exact Mem.le.refl _ | assumption
    exact ⟨rfl, rfl, EqP.f fun e => e h⟩
  · skip
    refine WL.val (Val.not rfl) rfl ?_
    refine WL.val (Val.assignB rfl) rfl ?_
    refine WL.nil ?_
    refine WX.thenC ?_
    refine WC.ret ?_
    apply WX.doneP (ks := [])
    case hres => exact RunRes.r1 rfl (ResIs.tmpB rfl)
    case hI => first | exact Mem.le.refl _ | assumption
    exact ⟨rfl, rfl, EqP.t h⟩
theorem idx_ctr (s : Sg) (g m : Nat) (hm : m ≤ 3) (I : Mem) : Ctr Tryz.prog 97 [.slice (some ⟨g, 1, none⟩) m 3, .func (.func 59) #[] #[]] I [box g 57 s.cs]
    (Keep I [box g 57 s.cs] fun v => ∃ i : Int, v = vi i ∧ (0 ≤ i ↔ ∃ k < m, ¬ (s.point k).inn)) := by
  refine Ctr.intro Tryz.func97 rfl rfl rfl fun E F => ?_
  refine WC.seq ?_
  refine WC.region ?_
  refine WL.val (Val.assignI rfl) rfl ?_
  refine WL.nil ?_
  refine WX.thenC ?_
  refine WC.seq ?_
  refine WC.seq ?_
  refine WC.region ?_
  refine WL.val (Val.moveS rfl) rfl ?_
  refine WL.val (Val.len rfl) rfl ?_
  refine WL.val (Val.moveI rfl) rfl ?_
  refine WL.nil ?_
  refine WX.thenC ?_
  refine WC.block ?_
  refine WC.loop (fun n ρ' I' L' => ∃ k : Nat, n = m - k ∧ k ≤ m ∧ I' = I ∧ ρ' 0 = .slice (some ⟨g, 1, none⟩) m 3 ∧ ρ' 1 = .func (.func 59) #[] #[] ∧ ρ' 7 = vi m ∧ ρ' 8 = vi k ∧ L' = [F, box g 57 s.cs] ∧ ∀ j < k, (s.point j).inn)
    m ⟨0, rfl, by omega, rfl, rfl, rfl, rfl, rfl, rfl, fun j h => by omega⟩ ?_
  rintro n ρ' I0 L' ⟨k, rfl, hk, rfl, r0, r1, r7, r8, rfl, hall⟩
  rw [← upd_self r8, ← upd_self r7, ← upd_self r1, ← upd_self r0]
  clear r8 r7 r1 r0
  by_cases hkm : k < m
  · have hcase : k = 0 ∨ k = 1 ∨ k = 2 := by omega
    rcases hcase with rfl | rfl | rfl
    · skip
      refine WC.seq ?_
      refine WC.region ?_
      refine WL.val (Val.lss rfl rfl (decide_eq_true (by omega))) rfl ?_
      refine WL.nil ?_
      refine WX.thenC ?_
      refine WC.seq ?_
      refine WC.condT rfl ?_
      refine WC.skip ?_
      refine WX.thenC ?_
      refine WC.seq ?_
      refine WC.block ?_
      refine WC.seq ?_
      refine WC.region ?_
      refine WL.val (Val.moveI rfl) rfl ?_
      refine WL.val (Val.assignI rfl) rfl ?_
      refine WL.nil ?_
      refine WX.thenC ?_
      refine WC.seq ?_
      refine WC.region ?_
      refine WL.val (Val.moveF rfl) rfl ?_
      refine WL.val (Val.moveS rfl) rfl ?_
      refine WL.val (Val.moveI rfl) rfl ?_
      refine WL.val (Val.indexAddr rfl rfl (by omega) (by omega)) rfl ?_
      refine WL.val (Val.loadO 1 rfl rfl rfl) rfl ?_
      refine WL.callE rfl rfl (chk1_ctr s.p0 _) rfl (fun h => ?_) (fun h => ?_)
      · skip
        refine WL.nil ?_
        refine WX.thenC ?_
        refine WC.condT rfl ?_
        refine WC.seq ?_
        refine WC.region ?_
        refine WL.val (Val.moveI rfl) rfl ?_
        refine WL.val (Val.assignI rfl) rfl ?_
        refine WL.nil ?_
        refine WX.thenC ?_
        refine WC.ret ?_
        refine WX.inRet ?_
        refine WX.thenRet ?_
        refine WX.thenRet ?_
        refine WX.inRet ?_
        refine WX.thenRet ?_
        apply WX.doneP (ks := [0])
        case hres => exact RunRes.r1 rfl (ResIs.tmpI rfl)
        case hI => first | exact Mem.le.refl _ | assumption
        exact ⟨rfl, rfl, 0, rfl, fun _ => ⟨0, hkm, h⟩, fun _ => by decide⟩
      · skip
        refine WL.nil ?_
        refine WX.thenC ?_
        refine WC.condF rfl ?_
        refine WC.skip ?_
        refine WX.inNormal ?_
        refine WX.thenC ?_
        refine WC.region ?_
        refine WL.val (Val.add rfl rfl (wrap_i64 (by omega) (by omega))) rfl ?_
        refine WL.val (Val.moveI rfl) rfl ?_
        refine WL.nil ?_
        have hall' : ∀ j < 0 + 1, (s.point j).inn := fun j hj => by
          rcases Nat.lt_or_ge j 0 with h9 | h9
          · exact hall j h9
          · obtain rfl : j = 0 := by omega
            exact Decidable.of_not_not h
        exact WX.thenK (WK.round (m - (0 + 1)) (by omega) ⟨0 + 1, rfl, by omega, rfl, rfl, rfl, rfl, rfl, rfl, hall'⟩)
    · skip
      refine WC.seq ?_
      refine WC.region ?_
      refine WL.val (Val.lss rfl rfl (decide_eq_true (by omega))) rfl ?_
      refine WL.nil ?_
      refine WX.thenC ?_
      refine WC.seq ?_
      refine WC.condT rfl ?_
      refine WC.skip ?_
      refine WX.thenC ?_
      refine WC.seq ?_
      refine WC.block ?_
      refine WC.seq ?_
      refine WC.region ?_
      refine WL.val (Val.moveI rfl) rfl ?_
      refine WL.val (Val.assignI rfl) rfl ?_
      refine WL.nil ?_
      refine WX.thenC ?_
      refine WC.seq ?_
      refine WC.region ?_
      refine WL.val (Val.moveF rfl) rfl ?_
      refine WL.val (Val.moveS rfl) rfl ?_
      refine WL.val (Val.moveI rfl) rfl ?_
      refine WL.val (Val.indexAddr rfl rfl (by omega) (by omega)) rfl ?_
      refine WL.val (Val.loadO 1 rfl rfl rfl) rfl ?_
      refine WL.callE rfl rfl (chk1_ctr s.p1 _) rfl (fun h => ?_) (fun h => ?_)
      · skip
        refine WL.nil ?_
        refine WX.thenC ?_
        refine WC.condT rfl ?_
        refine WC.seq ?_
        refine WC.region ?_
        refine WL.val (Val.moveI rfl) rfl ?_
        refine WL.val (Val.assignI rfl) rfl ?_
        refine WL.nil ?_
        refine WX.thenC ?_
        refine WC.ret ?_
        refine WX.inRet ?_
        refine WX.thenRet ?_
        refine WX.thenRet ?_
        refine WX.inRet ?_
        refine WX.thenRet ?_
        apply WX.doneP (ks := [0])
        case hres => exact RunRes.r1 rfl (ResIs.tmpI rfl)
        case hI => first | exact Mem.le.refl _ | assumption
        exact ⟨rfl, rfl, 1, rfl, fun _ => ⟨1, hkm, h⟩, fun _ => by decide⟩
      · skip
        refine WL.nil ?_
        refine WX.thenC ?_
        refine WC.condF rfl ?_
        refine WC.skip ?_
        refine WX.inNormal ?_
        refine WX.thenC ?_
        refine WC.region ?_
        refine WL.val (Val.add rfl rfl (wrap_i64 (by omega) (by omega))) rfl ?_
        refine WL.val (Val.moveI rfl) rfl ?_
        refine WL.nil ?_
        have hall' : ∀ j < 1 + 1, (s.point j).inn := fun j hj => by
          rcases Nat.lt_or_ge j 1 with h9 | h9
          · exact hall j h9
          · obtain rfl : j = 1 := by omega
            exact Decidable.of_not_not h
        exact WX.thenK (WK.round (m - (1 + 1)) (by omega) ⟨1 + 1, rfl, by omega, rfl, rfl, rfl, rfl, rfl, rfl, hall'⟩)
    · skip
      refine WC.seq ?_
      refine WC.region ?_
      refine WL.val (Val.lss rfl rfl (decide_eq_true (by omega))) rfl ?_
      refine WL.nil ?_
      refine WX.thenC ?_
      refine WC.seq ?_
      refine WC.condT rfl ?_
      refine WC.skip ?_
      refine WX.thenC ?_
      refine WC.seq ?_
      refine WC.block ?_
      refine WC.seq ?_
      refine WC.region ?_
      refine WL.val (Val.moveI rfl) rfl ?_
      refine WL.val (Val.assignI rfl) rfl ?_
      refine WL.nil ?_
      refine WX.thenC ?_
      refine WC.seq ?_
      refine WC.region ?_
      refine WL.val (Val.moveF rfl) rfl ?_
      refine WL.val (Val.moveS rfl) rfl ?_
      refine WL.val (Val.moveI rfl) rfl ?_
      refine WL.val (Val.indexAddr rfl rfl (by omega) (by omega)) rfl ?_
      refine WL.val (Val.loadO 1 rfl rfl rfl) rfl ?_
      refine WL.callE rfl rfl (chk1_ctr s.p2 _) rfl (fun h => ?_) (fun h => ?_)
      · skip
        refine WL.nil ?_
        refine WX.thenC ?_
        refine WC.condT rfl ?_
        refine WC.seq ?_
        refine WC.region ?_
        refine WL.val (Val.moveI rfl) rfl ?_
        refine WL.val (Val.assignI rfl) rfl ?_
        refine WL.nil ?_
        refine WX.thenC ?_
        refine WC.ret ?_
        refine WX.inRet ?_
        refine WX.thenRet ?_
        refine WX.thenRet ?_
        refine WX.inRet ?_
        refine WX.thenRet ?_
        apply WX.doneP (ks := [0])
        case hres => exact RunRes.r1 rfl (ResIs.tmpI rfl)
        case hI => first | exact Mem.le.refl _ | assumption
        exact ⟨rfl, rfl, 2, rfl, fun _ => ⟨2, hkm, h⟩, fun _ => by decide⟩
      · skip
        refine WL.nil ?_
        refine WX.thenC ?_
        refine WC.condF rfl ?_
        refine WC.skip ?_
        refine WX.inNormal ?_
        refine WX.thenC ?_
        refine WC.region ?_
        refine WL.val (Val.add rfl rfl (wrap_i64 (by omega) (by omega))) rfl ?_
        refine WL.val (Val.moveI rfl) rfl ?_
        refine WL.nil ?_
        have hall' : ∀ j < 2 + 1, (s.point j).inn := fun j hj => by
          rcases Nat.lt_or_ge j 2 with h9 | h9
          · exact hall j h9
          · obtain rfl : j = 2 := by omega
            exact Decidable.of_not_not h
        exact WX.thenK (WK.round (m - (2 + 1)) (by omega) ⟨2 + 1, rfl, by omega, rfl, rfl, rfl, rfl, rfl, rfl, hall'⟩)
  · have : k = m := by omega
    subst this
    refine WC.seq ?_
    refine WC.region ?_
    refine WL.val (Val.lss rfl rfl (decide_eq_false (by omega))) rfl ?_
    refine WL.nil ?_
    refine WX.thenC ?_
    refine WC.seq ?_
    refine WC.condF rfl ?_
    refine WC.exit ?_
    refine WX.thenExit ?_
    refine WX.thenExit ?_
    refine WX.inHit ?_
    refine WX.thenC ?_
    refine WC.seq ?_
    refine WC.region ?_
    refine WL.val (Val.assignI rfl) rfl ?_
    refine WL.nil ?_
    refine WX.thenC ?_
    refine WC.ret ?_
    apply WX.doneP (ks := [0])
    case hres => exact RunRes.r1 rfl (ResIs.tmpI rfl)
    case hI => first | exact Mem.le.refl _ | assumption
    exact ⟨rfl, rfl, -1, rfl, fun h => absurd h (by decide), fun ⟨j, h1, h2⟩ => absurd (hall j h1) h2⟩
theorem points_ctr (s : Sg) (g : Nat) (I : Mem) (hN : NeedAt I) : Ctr Tryz.prog 58 [ptr g] I [box g 57 s.cs] (Keep I [box g 57 s.cs] fun v => v = .slice (some ⟨g, 1, none⟩) (need s.kind) 3) := by
  have hn := need_le s.kind
  refine Ctr.intro Tryz.func58 rfl rfl rfl fun E F => ?_
  refine WC.seq ?_
  refine WC.region ?_
  refine WL.val (Val.assignS rfl) rfl ?_
  refine WL.nil ?_
  refine WX.thenC ?_
  refine WC.seq ?_
  refine WC.drawK 999 I [1] rfl (by kernel_rfl) rfl rfl ?_
  refine WA.take 0 rfl (by kernel_rfl) rfl (fun w h => (h.sub [1] rfl)) (Val.moveP rfl) rfl ?_
  refine WA.take 1 rfl (by kernel_rfl) rfl (fun w h => (h.sub [1] rfl)) (Val.nilCheckP rfl) rfl ?_
  refine WA.take 2 rfl (by kernel_rfl) rfl (fun w h => (h.sub [1] rfl)) (Val.fldAddr rfl) rfl ?_
  refine WA.take 3 rfl (by kernel_rfl) rfl (fun w h => (h.sub [1] rfl)) (Val.moveP rfl) rfl ?_
  refine WA.take 4 rfl (by kernel_rfl) rfl (fun w h => (h.sub [1] rfl)) (Val.nilCheckP rfl) rfl ?_
  refine WA.take 5 rfl (by kernel_rfl) rfl (fun w h => (h.sub [1] rfl)) (Val.fldAddr rfl) rfl ?_
  refine WA.take 6 rfl (by kernel_rfl) rfl (fun w h => (h.sub [1] rfl)) (Val.loadS rfl (Rd.own1 0 rfl rfl)) rfl ?_
  refine WA.eff1 (i := 7) (by kernel_rfl) rfl rfl ?_
  refine WL.callS rfl rfl (need_ctr s.kind _ hN) rfl ?_
  rintro _ rfl
  refine WL.nil ?_
  refine WK.anyStep (fun w h => (h.sub [1] rfl)) ?_
  first | refine WA.take 8 rfl (by kernel_rfl) rfl (fun w h => (h.sub [1] rfl)) (Val.sliceA (h := need s.kind) rfl (.none _) (.some (e := ((need s.kind : Nat) : Int)) rfl (Int.natCast_nonneg _)) (by omega) (by omega)) rfl ?_ | refine WA.takeGT 8 rfl (by kernel_rfl) rfl (fun w h => (h.sub [1] rfl)) rfl rfl (Val.sliceA (h := need s.kind) rfl (.none _) (.some (e := ((need s.kind : Nat) : Int)) rfl (Int.natCast_nonneg _)) (by omega) (by omega)) rfl ?_
  refine WA.take 9 rfl (by kernel_rfl) rfl (fun w h => (h.sub [1] rfl)) (Val.assignS rfl) rfl ?_
  refine WA.done (by kernel_rfl) ?_
  refine WX.thenC ?_
  refine WC.ret ?_
  apply WX.doneP (ks := [0])
  case hres => exact RunRes.r1 rfl (ResIs.tmpS rfl)
  case hI => first | exact Mem.le.refl _ | assumption
  exact ⟨rfl, rfl, rfl⟩
theorem contains_ctr (s : Sg) (g m : Nat) (hm : m ≤ 3) (I : Mem) : Ctr Tryz.prog 57 [.slice (some ⟨g, 1, none⟩) m 3, .func (.func 59) #[] #[]] I [box g 57 s.cs]
    (Keep I [box g 57 s.cs] (EqP (∃ k < m, ¬ (s.point k).inn))) := by
  refine Ctr.intro Tryz.func57 rfl rfl rfl fun E F => ?_
  refine WC.seq ?_
  refine WC.region ?_
  refine WL.val (Val.assignB rfl) rfl ?_
  refine WL.nil ?_
  refine WX.thenC ?_
  refine WC.seq ?_
  refine WC.region ?_
  refine WL.val (Val.moveS rfl) rfl ?_
  refine WL.val (Val.moveF rfl) rfl ?_
  refine WL.callK [1] rfl rfl rfl (idx_ctr s g m hm _) rfl ?_
  rintro _ ⟨i, rfl, hi⟩
  by_cases h0 : 0 ≤ i
  · skip
    refine WL.val (Val.geq rfl rfl (decide_eq_true (by omega))) rfl ?_
    refine WL.val (Val.assignB rfl) rfl ?_
    refine WL.nil ?_
    refine WX.thenC ?_
    refine WC.ret ?_
    apply WX.doneP (ks := [0])
    case hres => exact RunRes.r1 rfl (ResIs.tmpB rfl)
    case hI => first | exact Mem.le.refl _ | assumption
    exact ⟨rfl, rfl, EqP.t (hi.1 h0)⟩
  · skip
    refine WL.val (Val.geq rfl rfl (decide_eq_false (by omega))) rfl ?_
    refine WL.val (Val.assignB rfl) rfl ?_
    refine WL.nil ?_
    refine WX.thenC ?_
    refine WC.ret ?_
    apply WX.doneP (ks := [0])
    case hres => exact RunRes.r1 rfl (ResIs.tmpB rfl)
    case hI => first | exact Mem.le.refl _ | assumption
    exact ⟨rfl, rfl, EqP.f fun e => h0 (hi.2 e)⟩
theorem path_ctr (l : List Sg) (v : Value) (I : Mem) (hN : NeedAt I) (hv : LsAt Sg.rep I l v) : Ctr Tryz.prog 18 [v] I [] (Still I fun r => r = vi (pathCheck l)) := by
  have hlb := hv.le
  obtain ⟨a1, c1, rfl⟩ := hv.sl
  refine Ctr.intro Tryz.func18 rfl rfl rfl fun E F => ?_
  by_cases hl : 4096 < l.length
  · skip
    refine WC.seq ?_
    refine WC.region ?_
    refine WL.val (Val.assignI rfl) rfl ?_
    refine WL.nil ?_
    refine WX.thenC ?_
    refine WC.seq ?_
    refine WC.seq ?_
    refine WC.region ?_
    refine WL.val (Val.moveS rfl) rfl ?_
    refine WL.val (Val.len rfl) rfl ?_
    refine WL.val (Val.gtr rfl rfl (decide_eq_true (by omega))) rfl ?_
    refine WL.nil ?_
    refine WX.thenC ?_
    refine WC.condT rfl ?_
    refine WC.seq ?_
    refine WC.region ?_
    refine WL.val (Val.assignI rfl) rfl ?_
    refine WL.nil ?_
    refine WX.thenC ?_
    refine WC.ret ?_
    refine WX.thenRet ?_
    apply WX.doneP (ks := [])
    case hres => exact RunRes.r1 rfl (ResIs.tmpI rfl)
    case hI => first | exact Mem.le.refl _ | assumption
    exact ⟨rfl, rfl, by rw [pathCheck, if_pos hl]⟩
  rw [pathCheck, if_neg hl]
  refine WC.seq ?_
  refine WC.region ?_
  refine WL.val (Val.assignI rfl) rfl ?_
  refine WL.nil ?_
  refine WX.thenC ?_
  refine WC.seq ?_
  refine WC.seq ?_
  refine WC.region ?_
  refine WL.val (Val.moveS rfl) rfl ?_
  refine WL.val (Val.len rfl) rfl ?_
  refine WL.val (Val.gtr rfl rfl (decide_eq_false (by omega))) rfl ?_
  refine WL.nil ?_
  refine WX.thenC ?_
  refine WC.condF rfl ?_
  refine WC.skip ?_
  refine WX.thenC ?_
  refine WC.seq ?_
  refine WC.region ?_
  refine WL.val (Val.assignB rfl) rfl ?_
  refine WL.nil ?_
  refine WX.thenC ?_
  refine WC.seq ?_
  refine WC.seq ?_
  refine WC.region ?_
  refine WL.val (Val.moveS rfl) rfl ?_
  refine WL.val (Val.len rfl) rfl ?_
  refine WL.val (Val.moveI rfl) rfl ?_
  refine WL.nil ?_
  refine WX.thenC ?_
  refine WC.block ?_
  refine WC.loop (fun n ρ' I' L' => ∃ (k : Nat) (o : Bool), n = l.length - k ∧ k ≤ l.length ∧ I' = I ∧ ρ' 3 = .bool o ∧ ρ' 11 = .slice a1 l.length c1 ∧ ρ' 12 = vi l.length ∧ ρ' 13 = vi k ∧ L' = [F] ∧ pathGo false l = pathGo o (l.drop k))
    l.length ⟨0, false, rfl, by omega, rfl, rfl, rfl, rfl, rfl, rfl, rfl⟩ ?_
  rintro n ρ' I0 L' ⟨k, o, rfl, hk, rfl, r3, r11, r12, r13, rfl, hgo⟩
  rw [← upd_self r13, ← upd_self r12, ← upd_self r11, ← upd_self r3]
  clear r13 r12 r11 r3
  rw [hgo]
  by_cases hkn : k < l.length
  case neg =>
    have : k = l.length := by omega
    subst this
    rw [List.drop_length]
    refine WC.seq ?_
    refine WC.region ?_
    refine WL.val (Val.lss rfl rfl (decide_eq_false (by omega))) rfl ?_
    refine WL.nil ?_
    refine WX.thenC ?_
    refine WC.seq ?_
    refine WC.condF rfl ?_
    refine WC.exit ?_
    refine WX.thenExit ?_
    refine WX.thenExit ?_
    refine WX.inHit ?_
    refine WX.thenC ?_
    refine WC.seq ?_
    refine WC.region ?_
    refine WL.val (Val.assignI rfl) rfl ?_
    refine WL.nil ?_
    refine WX.thenC ?_
    refine WC.ret ?_
    apply WX.doneP (ks := [])
    case hres => exact RunRes.r1 rfl (ResIs.tmpI rfl)
    case hI => first | exact Mem.le.refl _ | assumption
    exact ⟨rfl, rfl, rfl⟩
  obtain ⟨b, off, cap', cs, he, ⟨rfl, hi⟩, hA⟩ := hv.get k hkn
  cases he
  rw [List.drop_eq_getElem_cons hkn, pathGo]
  rw [List.drop_eq_getElem_cons hkn, pathGo] at hgo
  generalize l[k] = x at *
  have hn := need_le x.kind
  by_cases b1 : x.kind < 1
  · rw [if_pos (by rw [Sg.check, if_pos (.inl b1)]; decide), Sg.check, if_pos (.inl b1)]
    refine WC.seq ?_
    refine WC.region ?_
    refine WL.val (Val.lss rfl rfl (decide_eq_true (by omega))) rfl ?_
    refine WL.nil ?_
    refine WX.thenC ?_
    refine WC.seq ?_
    refine WC.condT rfl ?_
    refine WC.skip ?_
    refine WX.thenC ?_
    refine WC.seq ?_
    refine WC.block ?_
    refine WC.seq ?_
    refine WC.region ?_
    refine WL.val (Val.indexAddr rfl rfl (by omega) (by omega)) rfl ?_
    refine WL.val (Val.loadI rfl (by assumption) rfl) rfl ?_
    (refine WL.alloc rfl ?_; intro _)
    refine WL.nApp ?_
    refine WL.stA 1 rfl rfl rfl rfl ?_
    refine WL.nil ?_
    refine WX.thenC ?_
    refine WC.seq ?_
    refine WC.seq ?_
    refine WC.region ?_
    refine WL.val (Val.fldAddr rfl) rfl ?_
    refine WL.val (Val.loadS rfl (Rd.own1 1 rfl rfl)) rfl ?_
    refine WL.val (Val.lss rfl rfl (decide_eq_true (by omega))) rfl ?_
    refine WL.val (Val.moveB rfl) rfl ?_
    refine WL.gF rfl rfl rfl rfl ?_
    refine WL.gF rfl rfl rfl rfl ?_
    refine WL.gF rfl rfl rfl rfl ?_
    refine WL.val (Val.pick rfl) rfl ?_
    refine WL.val (Val.moveB rfl) rfl ?_
    refine WL.gF rfl rfl rfl rfl ?_
    refine WL.gF rfl rfl rfl rfl ?_
    refine WL.gF rfl rfl rfl rfl ?_
    refine WL.gU rfl rfl rfl ?_
    refine WL.gU rfl rfl rfl ?_
    refine WL.gU rfl rfl rfl ?_
    refine WL.gF rfl rfl rfl rfl ?_
    refine WL.val (Val.pick rfl) rfl ?_
    refine WL.nil ?_
    refine WX.thenC ?_
    refine WC.condT rfl ?_
    refine WC.seq ?_
    refine WC.region ?_
    refine WL.val (Val.assignI rfl) rfl ?_
    refine WL.nil ?_
    refine WX.thenC ?_
    refine WC.ret ?_
    refine WX.thenRet ?_
    refine WX.inRet ?_
    refine WX.thenRet ?_
    refine WX.thenRet ?_
    refine WX.inRet ?_
    refine WX.thenRet ?_
    apply WX.doneP (ks := [])
    case hres => exact RunRes.r1 rfl (ResIs.tmpI rfl)
    case hI => first | exact Mem.le.refl _ | assumption
    exact ⟨rfl, rfl, rfl⟩
  by_cases b2 : 5 < x.kind
  · rw [if_pos (by rw [Sg.check, if_pos (.inr (.inl b2))]; decide), Sg.check, if_pos (.inr (.inl b2))]
    refine WC.seq ?_
    refine WC.region ?_
    refine WL.val (Val.lss rfl rfl (decide_eq_true (by omega))) rfl ?_
    refine WL.nil ?_
    refine WX.thenC ?_
    refine WC.seq ?_
    refine WC.condT rfl ?_
    refine WC.skip ?_
    refine WX.thenC ?_
    refine WC.seq ?_
    refine WC.block ?_
    refine WC.seq ?_
    refine WC.region ?_
    refine WL.val (Val.indexAddr rfl rfl (by omega) (by omega)) rfl ?_
    refine WL.val (Val.loadI rfl (by assumption) rfl) rfl ?_
    (refine WL.alloc rfl ?_; intro _)
    refine WL.nApp ?_
    refine WL.stA 1 rfl rfl rfl rfl ?_
    refine WL.nil ?_
    refine WX.thenC ?_
    refine WC.seq ?_
    refine WC.seq ?_
    refine WC.region ?_
    refine WL.val (Val.fldAddr rfl) rfl ?_
    refine WL.val (Val.loadS rfl (Rd.own1 1 rfl rfl)) rfl ?_
    refine WL.val (Val.lss rfl rfl (decide_eq_false (by omega))) rfl ?_
    refine WL.val (Val.moveB rfl) rfl ?_
    refine WL.gT rfl rfl ?_
    refine WL.val (Val.fldAddr rfl) rfl ?_
    refine WL.gT rfl rfl ?_
    refine WL.val (Val.loadS rfl (Rd.own1 1 rfl rfl)) rfl ?_
    refine WL.gT rfl rfl ?_
    refine WL.val (Val.gtr rfl rfl (decide_eq_true (by omega))) rfl ?_
    refine WL.val (Val.pick rfl) rfl ?_
    refine WL.val (Val.moveB rfl) rfl ?_
    refine WL.gF rfl rfl rfl rfl ?_
    refine WL.gF rfl rfl rfl rfl ?_
    refine WL.gF rfl rfl rfl rfl ?_
    refine WL.gU rfl rfl rfl ?_
    refine WL.gU rfl rfl rfl ?_
    refine WL.gU rfl rfl rfl ?_
    refine WL.gF rfl rfl rfl rfl ?_
    refine WL.val (Val.pick rfl) rfl ?_
    refine WL.nil ?_
    refine WX.thenC ?_
    refine WC.condT rfl ?_
    refine WC.seq ?_
    refine WC.region ?_
    refine WL.val (Val.assignI rfl) rfl ?_
    refine WL.nil ?_
    refine WX.thenC ?_
    refine WC.ret ?_
    refine WX.thenRet ?_
    refine WX.inRet ?_
    refine WX.thenRet ?_
    refine WX.thenRet ?_
    refine WX.inRet ?_
    refine WX.thenRet ?_
    apply WX.doneP (ks := [])
    case hres => exact RunRes.r1 rfl (ResIs.tmpI rfl)
    case hI => first | exact Mem.le.refl _ | assumption
    exact ⟨rfl, rfl, rfl⟩
  by_cases b3 : o = false ∧ x.kind ≠ 1
  · rw [if_pos (by rw [Sg.check, if_pos (.inr (.inr b3))]; decide), Sg.check, if_pos (.inr (.inr b3))]
    obtain ⟨rfl, b3'⟩ := b3
    refine WC.seq ?_
    refine WC.region ?_
    refine WL.val (Val.lss rfl rfl (decide_eq_true (by omega))) rfl ?_
    refine WL.nil ?_
    refine WX.thenC ?_
    refine WC.seq ?_
    refine WC.condT rfl ?_
    refine WC.skip ?_
    refine WX.thenC ?_
    refine WC.seq ?_
    refine WC.block ?_
    refine WC.seq ?_
    refine WC.region ?_
    refine WL.val (Val.indexAddr rfl rfl (by omega) (by omega)) rfl ?_
    refine WL.val (Val.loadI rfl (by assumption) rfl) rfl ?_
    (refine WL.alloc rfl ?_; intro _)
    refine WL.nApp ?_
    refine WL.stA 1 rfl rfl rfl rfl ?_
    refine WL.nil ?_
    refine WX.thenC ?_
    refine WC.seq ?_
    refine WC.seq ?_
    refine WC.region ?_
    refine WL.val (Val.fldAddr rfl) rfl ?_
    refine WL.val (Val.loadS rfl (Rd.own1 1 rfl rfl)) rfl ?_
    refine WL.val (Val.lss rfl rfl (decide_eq_false (by omega))) rfl ?_
    refine WL.val (Val.moveB rfl) rfl ?_
    refine WL.gT rfl rfl ?_
    refine WL.val (Val.fldAddr rfl) rfl ?_
    refine WL.gT rfl rfl ?_
    refine WL.val (Val.loadS rfl (Rd.own1 1 rfl rfl)) rfl ?_
    refine WL.gT rfl rfl ?_
    refine WL.val (Val.gtr rfl rfl (decide_eq_false (by omega))) rfl ?_
    refine WL.val (Val.pick rfl) rfl ?_
    refine WL.val (Val.moveB rfl) rfl ?_
    refine WL.gT rfl rfl ?_
    refine WL.val (Val.moveB rfl) rfl ?_
    refine WL.gT rfl rfl ?_
    refine WL.val (Val.not rfl) rfl ?_
    refine WL.gT rfl rfl ?_
    refine WL.val (Val.moveB rfl) rfl ?_
    refine WL.gT rfl rfl ?_
    refine WL.val (Val.fldAddr rfl) rfl ?_
    refine WL.gT rfl rfl ?_
    refine WL.val (Val.loadS rfl (Rd.own1 1 rfl rfl)) rfl ?_
    refine WL.gT rfl rfl ?_
    refine WL.val (Val.neq rfl rfl (bne_iff_ne.2 (by omega))) rfl ?_
    refine WL.gT rfl rfl ?_
    refine WL.val (Val.pick rfl) rfl ?_
    refine WL.val (Val.pick rfl) rfl ?_
    refine WL.nil ?_
    refine WX.thenC ?_
    refine WC.condT rfl ?_
    refine WC.seq ?_
    refine WC.region ?_
    refine WL.val (Val.assignI rfl) rfl ?_
    refine WL.nil ?_
    refine WX.thenC ?_
    refine WC.ret ?_
    refine WX.thenRet ?_
    refine WX.inRet ?_
    refine WX.thenRet ?_
    refine WX.thenRet ?_
    refine WX.inRet ?_
    refine WX.thenRet ?_
    apply WX.doneP (ks := [])
    case hres => exact RunRes.r1 rfl (ResIs.tmpI rfl)
    case hI => first | exact Mem.le.refl _ | assumption
    exact ⟨rfl, rfl, rfl⟩
  have hc : x.check o = if (need x.kind ≤ 0 ∧ x.p0 ≠ Pt.z) ∨ (need x.kind ≤ 1 ∧ x.p1 ≠ Pt.z) ∨ (need x.kind ≤ 2 ∧ x.p2 ≠ Pt.z) then 33
      else if (0 < need x.kind ∧ ¬ x.p0.inn) ∨ (1 < need x.kind ∧ ¬ x.p1.inn) ∨ (2 < need x.kind ∧ ¬ x.p2.inn) then 30 else 0 := by
    rw [Sg.check, if_neg (fun e => e.elim b1 fun e => e.elim b2 b3)]
  have fin : ∀ e : Int, e ≠ 0 → x.check o = e → (if x.check o ≠ 0 then x.check o else pathGo (decide (x.kind ≠ 5)) (l.drop (k + 1))) = e := fun e h1 h2 => by rw [if_pos (by rw [h2]; exact h1), h2]
  cases o with
  | true =>
    refine WC.seq ?_
    refine WC.region ?_
    refine WL.val (Val.lss rfl rfl (decide_eq_true (by omega))) rfl ?_
    refine WL.nil ?_
    refine WX.thenC ?_
    refine WC.seq ?_
    refine WC.condT rfl ?_
    refine WC.skip ?_
    refine WX.thenC ?_
    refine WC.seq ?_
    refine WC.block ?_
    refine WC.seq ?_
    refine WC.region ?_
    refine WL.val (Val.indexAddr rfl rfl (by omega) (by omega)) rfl ?_
    refine WL.val (Val.loadI rfl (by assumption) rfl) rfl ?_
    (refine WL.alloc rfl ?_; intro _)
    refine WL.nApp ?_
    refine WL.stA 1 rfl rfl rfl rfl ?_
    refine WL.nil ?_
    refine WX.thenC ?_
    refine WC.seq ?_
    refine WC.seq ?_
    refine WC.region ?_
    refine WL.val (Val.fldAddr rfl) rfl ?_
    refine WL.val (Val.loadS rfl (Rd.own1 1 rfl rfl)) rfl ?_
    refine WL.val (Val.lss rfl rfl (decide_eq_false (by omega))) rfl ?_
    refine WL.val (Val.moveB rfl) rfl ?_
    refine WL.gT rfl rfl ?_
    refine WL.val (Val.fldAddr rfl) rfl ?_
    refine WL.gT rfl rfl ?_
    refine WL.val (Val.loadS rfl (Rd.own1 1 rfl rfl)) rfl ?_
    refine WL.gT rfl rfl ?_
    refine WL.val (Val.gtr rfl rfl (decide_eq_false (by omega))) rfl ?_
    refine WL.val (Val.pick rfl) rfl ?_
    refine WL.val (Val.moveB rfl) rfl ?_
    refine WL.gT rfl rfl ?_
    refine WL.val (Val.moveB rfl) rfl ?_
    refine WL.gT rfl rfl ?_
    refine WL.val (Val.not rfl) rfl ?_
    refine WL.gT rfl rfl ?_
    refine WL.val (Val.moveB rfl) rfl ?_
    refine WL.gF rfl rfl rfl rfl ?_
    refine WL.gF rfl rfl rfl rfl ?_
    refine WL.gF rfl rfl rfl rfl ?_
    refine WL.gT rfl rfl ?_
    refine WL.val (Val.pick rfl) rfl ?_
    refine WL.val (Val.pick rfl) rfl ?_
    refine WL.nil ?_
    refine WX.thenC ?_
    refine WC.condF rfl ?_
    refine WC.skip ?_
    refine WX.thenC ?_
    refine WC.seq ?_
    refine WC.seq ?_
    refine WC.region ?_
    refine WL.val (Val.fldAddr rfl) rfl ?_
    refine WL.val (Val.ldO 1 rfl rfl rfl) rfl ?_
    refine WL.val (Val.moveI rfl) rfl ?_
    refine WL.nil ?_
    refine WX.thenC ?_
    refine WC.block ?_
    rename_i g5
    refine WC.loop (fun n ρ' I' L' => ∃ q : Nat, n = 3 - q ∧ q ≤ 3 ∧ I' = I0 ∧ ρ' 3 = .bool true ∧ ρ' 5 = ptr g5 ∧ ρ' 11 = .slice (some ⟨b, off, none⟩) l.length c1 ∧ ρ' 12 = vi l.length ∧ ρ' 13 = vi k ∧ ρ' 35 = .agg #[vi x.p0.x, vi x.p0.y, vi x.p1.x, vi x.p1.y, vi x.p2.x, vi x.p2.y] ∧ ρ' 36 = vi q ∧
        L' = [F, box g5 57 x.cs] ∧ (0 < q → need x.kind ≤ 0 → x.p0 = Pt.z) ∧ (1 < q → need x.kind ≤ 1 → x.p1 = Pt.z) ∧ (2 < q → need x.kind ≤ 2 → x.p2 = Pt.z))
      3 ⟨0, rfl, by omega, rfl, rfl, rfl, rfl, rfl, rfl, rfl, rfl, rfl, fun h => by omega, fun h => by omega, fun h => by omega⟩ ?_
    rintro n ρ' I1 L' ⟨q, rfl, hq3, rfl, r3, r5, r11, r12, r13, r35, r36, rfl, z0, z1, z2⟩
    rw [← upd_self r36, ← upd_self r35, ← upd_self r13, ← upd_self r12, ← upd_self r11, ← upd_self r5, ← upd_self r3]
    clear r36 r35 r13 r12 r11 r5 r3
    have hcase : q = 0 ∨ q = 1 ∨ q = 2 ∨ q = 3 := by omega
    rcases hcase with rfl | rfl | rfl | rfl
    · skip
      refine WC.seq ?_
      refine WC.region ?_
      refine WL.val (Val.lss rfl rfl (decide_eq_true (by omega))) rfl ?_
      refine WL.nil ?_
      refine WX.thenC ?_
      refine WC.seq ?_
      refine WC.condT rfl ?_
      refine WC.skip ?_
      refine WX.thenC ?_
      refine WC.seq ?_
      refine WC.block ?_
      refine WC.seq ?_
      refine WC.region ?_
      refine WL.val (Val.moveI rfl) rfl ?_
      refine WL.val (Val.indexA (vs := x.p0.cs) rfl rfl (by decide) (by decide) rfl) rfl ?_
      (refine WL.alloc rfl ?_; intro _)
      refine WL.nApp ?_
      refine WL.val (Val.assignI rfl) rfl ?_
      refine WL.stA 2 rfl rfl rfl rfl ?_
      refine WL.nil ?_
      refine WX.thenC ?_
      refine WC.seq ?_
      refine WC.region ?_
      refine WL.val (Val.moveI rfl) rfl ?_
      refine WL.val (Val.fldAddr rfl) rfl ?_
      refine WL.val (Val.loadS rfl (Rd.own1 1 rfl rfl)) rfl ?_
      refine WL.callS rfl rfl (need_ctr x.kind _ hN) rfl ?_
      rintro _ rfl
      by_cases hn0 : need x.kind ≤ 0
      · have hn' : (need x.kind : Int) ≤ 0 := by omega
        refine WL.val (Val.geq rfl rfl (decide_eq_true (by omega))) rfl ?_
        refine WL.val (Val.moveB rfl) rfl ?_
        refine WL.gT rfl rfl ?_
        refine WL.val (Val.ldO 2 rfl rfl rfl) rfl ?_
        refine WL.gT rfl rfl ?_
        refine WL.val (Val.build0) rfl ?_
        refine WL.gT rfl rfl ?_
        refine WL.neS rfl rfl rfl rfl rfl (fun h => ?_) (fun h => ?_)
        refine WL.val (Val.pick rfl) rfl ?_
        refine WL.nil ?_
        refine WX.thenC ?_
        refine WC.condT rfl ?_
        refine WC.seq ?_
        refine WC.region ?_
        refine WL.val (Val.assignI rfl) rfl ?_
        refine WL.nil ?_
        refine WX.thenC ?_
        refine WC.ret ?_
        refine WX.inRet ?_
        refine WX.thenRet ?_
        refine WX.thenRet ?_
        refine WX.inRet ?_
        refine WX.thenRet ?_
        refine WX.inRet ?_
        refine WX.thenRet ?_
        refine WX.thenRet ?_
        refine WX.inRet ?_
        refine WX.thenRet ?_
        · skip
          apply WX.doneP (ks := [])
          case hres => exact RunRes.r1 rfl (ResIs.tmpI rfl)
          case hI => first | exact Mem.le.refl _ | assumption
          exact ⟨rfl, rfl, by rw [fin 33 (by decide) (by rw [hc, if_pos (.inl ⟨hn0, fun e => h (by rw [e])⟩)])]⟩
        · skip
          refine WL.val (Val.pick rfl) rfl ?_
          refine WL.nil ?_
          refine WX.thenC ?_
          refine WC.condF rfl ?_
          refine WC.skip ?_
          refine WX.inNormal ?_
          refine WX.thenC ?_
          refine WC.region ?_
          refine WL.val (Val.add rfl rfl (wrap_i64 (by omega) (by omega))) rfl ?_
          refine WL.val (Val.moveI rfl) rfl ?_
          refine WL.nil ?_
          refine WX.conv (fun w h => h.sub [0, 0] rfl) ?_
          exact WX.thenK (WK.round 2 (by omega) ⟨1, rfl, by omega, rfl, rfl, rfl, rfl, rfl, rfl, rfl, rfl, rfl, fun _ _ => Pt.inj h, fun h => by omega, fun h => by omega⟩)
      · have hn' : ¬ (need x.kind : Int) ≤ 0 := by omega
        refine WL.val (Val.geq rfl rfl (decide_eq_false (by omega))) rfl ?_
        refine WL.val (Val.moveB rfl) rfl ?_
        refine WL.gF rfl rfl rfl rfl ?_
        refine WL.gF rfl rfl rfl rfl ?_
        refine WL.gF rfl rfl rfl rfl ?_
        refine WL.val (Val.pick rfl) rfl ?_
        refine WL.nil ?_
        refine WX.thenC ?_
        refine WC.condF rfl ?_
        refine WC.skip ?_
        refine WX.inNormal ?_
        refine WX.thenC ?_
        refine WC.region ?_
        refine WL.val (Val.add rfl rfl (wrap_i64 (by omega) (by omega))) rfl ?_
        refine WL.val (Val.moveI rfl) rfl ?_
        refine WL.nil ?_
        refine WX.conv (fun w h => h.sub [0, 0] rfl) ?_
        exact WX.thenK (WK.round 2 (by omega) ⟨1, rfl, by omega, rfl, rfl, rfl, rfl, rfl, rfl, rfl, rfl, rfl, fun _ h => absurd h hn0, fun h => by omega, fun h => by omega⟩)
    · skip
      refine WC.seq ?_
      refine WC.region ?_
      refine WL.val (Val.lss rfl rfl (decide_eq_true (by omega))) rfl ?_
      refine WL.nil ?_
      refine WX.thenC ?_
      refine WC.seq ?_
      refine WC.condT rfl ?_
      refine WC.skip ?_
      refine WX.thenC ?_
      refine WC.seq ?_
      refine WC.block ?_
      refine WC.seq ?_
      refine WC.region ?_
      refine WL.val (Val.moveI rfl) rfl ?_
      refine WL.val (Val.indexA (vs := x.p1.cs) rfl rfl (by decide) (by decide) rfl) rfl ?_
      (refine WL.alloc rfl ?_; intro _)
      refine WL.nApp ?_
      refine WL.val (Val.assignI rfl) rfl ?_
      refine WL.stA 2 rfl rfl rfl rfl ?_
      refine WL.nil ?_
      refine WX.thenC ?_
      refine WC.seq ?_
      refine WC.region ?_
      refine WL.val (Val.moveI rfl) rfl ?_
      refine WL.val (Val.fldAddr rfl) rfl ?_
      refine WL.val (Val.loadS rfl (Rd.own1 1 rfl rfl)) rfl ?_
      refine WL.callS rfl rfl (need_ctr x.kind _ hN) rfl ?_
      rintro _ rfl
      by_cases hn0 : need x.kind ≤ 1
      · have hn' : (need x.kind : Int) ≤ 1 := by omega
        refine WL.val (Val.geq rfl rfl (decide_eq_true (by omega))) rfl ?_
        refine WL.val (Val.moveB rfl) rfl ?_
        refine WL.gT rfl rfl ?_
        refine WL.val (Val.ldO 2 rfl rfl rfl) rfl ?_
        refine WL.gT rfl rfl ?_
        refine WL.val (Val.build0) rfl ?_
        refine WL.gT rfl rfl ?_
        refine WL.neS rfl rfl rfl rfl rfl (fun h => ?_) (fun h => ?_)
        refine WL.val (Val.pick rfl) rfl ?_
        refine WL.nil ?_
        refine WX.thenC ?_
        refine WC.condT rfl ?_
        refine WC.seq ?_
        refine WC.region ?_
        refine WL.val (Val.assignI rfl) rfl ?_
        refine WL.nil ?_
        refine WX.thenC ?_
        refine WC.ret ?_
        refine WX.inRet ?_
        refine WX.thenRet ?_
        refine WX.thenRet ?_
        refine WX.inRet ?_
        refine WX.thenRet ?_
        refine WX.inRet ?_
        refine WX.thenRet ?_
        refine WX.thenRet ?_
        refine WX.inRet ?_
        refine WX.thenRet ?_
        · skip
          apply WX.doneP (ks := [])
          case hres => exact RunRes.r1 rfl (ResIs.tmpI rfl)
          case hI => first | exact Mem.le.refl _ | assumption
          exact ⟨rfl, rfl, by rw [fin 33 (by decide) (by rw [hc, if_pos (.inr (.inl ⟨hn0, fun e => h (by rw [e])⟩))])]⟩
        · skip
          refine WL.val (Val.pick rfl) rfl ?_
          refine WL.nil ?_
          refine WX.thenC ?_
          refine WC.condF rfl ?_
          refine WC.skip ?_
          refine WX.inNormal ?_
          refine WX.thenC ?_
          refine WC.region ?_
          refine WL.val (Val.add rfl rfl (wrap_i64 (by omega) (by omega))) rfl ?_
          refine WL.val (Val.moveI rfl) rfl ?_
          refine WL.nil ?_
          refine WX.conv (fun w h => h.sub [0, 0] rfl) ?_
          exact WX.thenK (WK.round 1 (by omega) ⟨2, rfl, by omega, rfl, rfl, rfl, rfl, rfl, rfl, rfl, rfl, rfl, fun _ => z0 (by omega), fun _ _ => Pt.inj h, fun h => by omega⟩)
      · have hn' : ¬ (need x.kind : Int) ≤ 1 := by omega
        refine WL.val (Val.geq rfl rfl (decide_eq_false (by omega))) rfl ?_
        refine WL.val (Val.moveB rfl) rfl ?_
        refine WL.gF rfl rfl rfl rfl ?_
        refine WL.gF rfl rfl rfl rfl ?_
        refine WL.gF rfl rfl rfl rfl ?_
        refine WL.val (Val.pick rfl) rfl ?_
        refine WL.nil ?_
        refine WX.thenC ?_
        refine WC.condF rfl ?_
        refine WC.skip ?_
        refine WX.inNormal ?_
        refine WX.thenC ?_
        refine WC.region ?_
        refine WL.val (Val.add rfl rfl (wrap_i64 (by omega) (by omega))) rfl ?_
        refine WL.val (Val.moveI rfl) rfl ?_
        refine WL.nil ?_
        refine WX.conv (fun w h => h.sub [0, 0] rfl) ?_
        exact WX.thenK (WK.round 1 (by omega) ⟨2, rfl, by omega, rfl, rfl, rfl, rfl, rfl, rfl, rfl, rfl, rfl, fun _ => z0 (by omega), fun _ h => absurd h hn0, fun h => by omega⟩)
    · skip
      refine WC.seq ?_
      refine WC.region ?_
      refine WL.val (Val.lss rfl rfl (decide_eq_true (by omega))) rfl ?_
      refine WL.nil ?_
      refine WX.thenC ?_
      refine WC.seq ?_
      refine WC.condT rfl ?_
      refine WC.skip ?_
      refine WX.thenC ?_
      refine WC.seq ?_
      refine WC.block ?_
      refine WC.seq ?_
      refine WC.region ?_
      refine WL.val (Val.moveI rfl) rfl ?_
      refine WL.val (Val.indexA (vs := x.p2.cs) rfl rfl (by decide) (by decide) rfl) rfl ?_
      (refine WL.alloc rfl ?_; intro _)
      refine WL.nApp ?_
      refine WL.val (Val.assignI rfl) rfl ?_
      refine WL.stA 2 rfl rfl rfl rfl ?_
      refine WL.nil ?_
      refine WX.thenC ?_
      refine WC.seq ?_
      refine WC.region ?_
      refine WL.val (Val.moveI rfl) rfl ?_
      refine WL.val (Val.fldAddr rfl) rfl ?_
      refine WL.val (Val.loadS rfl (Rd.own1 1 rfl rfl)) rfl ?_
      refine WL.callS rfl rfl (need_ctr x.kind _ hN) rfl ?_
      rintro _ rfl
      by_cases hn0 : need x.kind ≤ 2
      · have hn' : (need x.kind : Int) ≤ 2 := by omega
        refine WL.val (Val.geq rfl rfl (decide_eq_true (by omega))) rfl ?_
        refine WL.val (Val.moveB rfl) rfl ?_
        refine WL.gT rfl rfl ?_
        refine WL.val (Val.ldO 2 rfl rfl rfl) rfl ?_
        refine WL.gT rfl rfl ?_
        refine WL.val (Val.build0) rfl ?_
        refine WL.gT rfl rfl ?_
        refine WL.neS rfl rfl rfl rfl rfl (fun h => ?_) (fun h => ?_)
        refine WL.val (Val.pick rfl) rfl ?_
        refine WL.nil ?_
        refine WX.thenC ?_
        refine WC.condT rfl ?_
        refine WC.seq ?_
        refine WC.region ?_
        refine WL.val (Val.assignI rfl) rfl ?_
        refine WL.nil ?_
        refine WX.thenC ?_
        refine WC.ret ?_
        refine WX.inRet ?_
        refine WX.thenRet ?_
        refine WX.thenRet ?_
        refine WX.inRet ?_
        refine WX.thenRet ?_
        refine WX.inRet ?_
        refine WX.thenRet ?_
        refine WX.thenRet ?_
        refine WX.inRet ?_
        refine WX.thenRet ?_
        · skip
          apply WX.doneP (ks := [])
          case hres => exact RunRes.r1 rfl (ResIs.tmpI rfl)
          case hI => first | exact Mem.le.refl _ | assumption
          exact ⟨rfl, rfl, by rw [fin 33 (by decide) (by rw [hc, if_pos (.inr (.inr ⟨hn0, fun e => h (by rw [e])⟩))])]⟩
        · skip
          refine WL.val (Val.pick rfl) rfl ?_
          refine WL.nil ?_
          refine WX.thenC ?_
          refine WC.condF rfl ?_
          refine WC.skip ?_
          refine WX.inNormal ?_
          refine WX.thenC ?_
          refine WC.region ?_
          refine WL.val (Val.add rfl rfl (wrap_i64 (by omega) (by omega))) rfl ?_
          refine WL.val (Val.moveI rfl) rfl ?_
          refine WL.nil ?_
          refine WX.conv (fun w h => h.sub [0, 0] rfl) ?_
          exact WX.thenK (WK.round 0 (by omega) ⟨3, rfl, by omega, rfl, rfl, rfl, rfl, rfl, rfl, rfl, rfl, rfl, fun _ => z0 (by omega), fun _ => z1 (by omega), fun _ _ => Pt.inj h⟩)
      · have hn' : ¬ (need x.kind : Int) ≤ 2 := by omega
        refine WL.val (Val.geq rfl rfl (decide_eq_false (by omega))) rfl ?_
        refine WL.val (Val.moveB rfl) rfl ?_
        refine WL.gF rfl rfl rfl rfl ?_
        refine WL.gF rfl rfl rfl rfl ?_
        refine WL.gF rfl rfl rfl rfl ?_
        refine WL.val (Val.pick rfl) rfl ?_
        refine WL.nil ?_
        refine WX.thenC ?_
        refine WC.condF rfl ?_
        refine WC.skip ?_
        refine WX.inNormal ?_
        refine WX.thenC ?_
        refine WC.region ?_
        refine WL.val (Val.add rfl rfl (wrap_i64 (by omega) (by omega))) rfl ?_
        refine WL.val (Val.moveI rfl) rfl ?_
        refine WL.nil ?_
        refine WX.conv (fun w h => h.sub [0, 0] rfl) ?_
        exact WX.thenK (WK.round 0 (by omega) ⟨3, rfl, by omega, rfl, rfl, rfl, rfl, rfl, rfl, rfl, rfl, rfl, fun _ => z0 (by omega), fun _ => z1 (by omega), fun _ h => absurd h hn0⟩)
    · have z0' := z0 (by omega)
      have z1' := z1 (by omega)
      have z2' := z2 (by omega)
      rw [if_neg (fun e => e.elim (fun e => e.2 (z0' e.1)) fun e => e.elim (fun e => e.2 (z1' e.1)) fun e => e.2 (z2' e.1))] at hc
      refine WC.seq ?_
      refine WC.region ?_
      refine WL.val (Val.lss rfl rfl (decide_eq_false (by omega))) rfl ?_
      refine WL.nil ?_
      refine WX.thenC ?_
      refine WC.seq ?_
      refine WC.condF rfl ?_
      refine WC.exit ?_
      refine WX.thenExit ?_
      refine WX.thenExit ?_
      refine WX.inHit ?_
      refine WX.thenC ?_
      refine WC.seq ?_
      refine WC.seq ?_
      refine WC.region ?_
      refine WL.callK [1] rfl rfl rfl (points_ctr x g5 _ hN) rfl ?_
      rintro _ rfl
      skip
      refine WL.callK [1] rfl rfl rfl (contains_ctr x g5 (need x.kind) hn _) rfl ?_
      rintro _ ⟨bb, rfl, hbb⟩
      cases bb with
      | true =>
        obtain ⟨j, hj, hnj⟩ := hbb.1 rfl
        have h2 : (0 < need x.kind ∧ ¬ x.p0.inn) ∨ (1 < need x.kind ∧ ¬ x.p1.inn) ∨ (2 < need x.kind ∧ ¬ x.p2.inn) := by
          have hj3 : j = 0 ∨ j = 1 ∨ j = 2 := by omega
          rcases hj3 with rfl | rfl | rfl
          · exact .inl ⟨hj, hnj⟩
          · exact .inr (.inl ⟨hj, hnj⟩)
          · exact .inr (.inr ⟨hj, hnj⟩)
        refine WL.nil ?_
        refine WX.thenC ?_
        refine WC.condT rfl ?_
        refine WC.seq ?_
        refine WC.region ?_
        refine WL.val (Val.assignI rfl) rfl ?_
        refine WL.nil ?_
        refine WX.thenC ?_
        refine WC.ret ?_
        refine WX.thenRet ?_
        refine WX.inRet ?_
        refine WX.thenRet ?_
        refine WX.thenRet ?_
        refine WX.inRet ?_
        refine WX.thenRet ?_
        apply WX.doneP (ks := [])
        case hres => exact RunRes.r1 rfl (ResIs.tmpI rfl)
        case hI => first | exact Mem.le.refl _ | assumption
        exact ⟨rfl, rfl, by rw [fin 30 (by decide) (by rw [hc, if_pos h2])]⟩
      | false =>
        have h2 : ¬ ((0 < need x.kind ∧ ¬ x.p0.inn) ∨ (1 < need x.kind ∧ ¬ x.p1.inn) ∨ (2 < need x.kind ∧ ¬ x.p2.inn)) := fun e => by
          have hno : ¬ ∃ k < need x.kind, ¬ (x.point k).inn := fun e => by
            have := hbb.2 e
            cases this
          rcases e with e | e | e
          · exact hno ⟨0, e.1, e.2⟩
          · exact hno ⟨1, e.1, e.2⟩
          · exact hno ⟨2, e.1, e.2⟩
        rw [if_neg h2] at hc
        rw [if_neg (fun e => e hc)] at hgo
        rw [if_neg (fun e => e hc)]
        by_cases h5 : x.kind = 5
        · rw [decide_eq_false (fun e => e h5)] at hgo
          refine WL.nil ?_
          refine WX.thenC ?_
          refine WC.condF rfl ?_
          refine WC.skip ?_
          refine WX.thenC ?_
          refine WC.region ?_
          refine WL.val (Val.fldAddr rfl) rfl ?_
          refine WL.val (Val.loadS rfl (Rd.own1 1 rfl rfl)) rfl ?_
          refine WL.val (Val.neq rfl rfl (bne_eq_false_iff_eq.2 (by omega))) rfl ?_
          refine WL.val (Val.assignB rfl) rfl ?_
          refine WL.nil ?_
          refine WX.inNormal ?_
          refine WX.thenC ?_
          refine WC.region ?_
          refine WL.val (Val.add rfl rfl (wrap_i64 (by omega) (by omega))) rfl ?_
          refine WL.val (Val.moveI rfl) rfl ?_
          refine WL.nil ?_
          refine WX.conv (fun w h => h.sub [0] rfl) ?_
          rw [decide_eq_false (fun e => e h5), ← hgo]
          exact WX.thenK (WK.round (l.length - (k + 1)) (by omega) ⟨k + 1, false, rfl, by omega, rfl, rfl, rfl, rfl, rfl, rfl, hgo⟩)
        · rw [decide_eq_true h5] at hgo
          refine WL.nil ?_
          refine WX.thenC ?_
          refine WC.condF rfl ?_
          refine WC.skip ?_
          refine WX.thenC ?_
          refine WC.region ?_
          refine WL.val (Val.fldAddr rfl) rfl ?_
          refine WL.val (Val.loadS rfl (Rd.own1 1 rfl rfl)) rfl ?_
          refine WL.val (Val.neq rfl rfl (bne_iff_ne.2 (by omega))) rfl ?_
          refine WL.val (Val.assignB rfl) rfl ?_
          refine WL.nil ?_
          refine WX.inNormal ?_
          refine WX.thenC ?_
          refine WC.region ?_
          refine WL.val (Val.add rfl rfl (wrap_i64 (by omega) (by omega))) rfl ?_
          refine WL.val (Val.moveI rfl) rfl ?_
          refine WL.nil ?_
          refine WX.conv (fun w h => h.sub [0] rfl) ?_
          rw [decide_eq_true h5, ← hgo]
          exact WX.thenK (WK.round (l.length - (k + 1)) (by omega) ⟨k + 1, true, rfl, by omega, rfl, rfl, rfl, rfl, rfl, rfl, hgo⟩)
  | false =>
    have hk1 : x.kind = 1 := Decidable.byContradiction fun e => b3 ⟨rfl, e⟩
    refine WC.seq ?_
    refine WC.region ?_
    refine WL.val (Val.lss rfl rfl (decide_eq_true (by omega))) rfl ?_
    refine WL.nil ?_
    refine WX.thenC ?_
    refine WC.seq ?_
    refine WC.condT rfl ?_
    refine WC.skip ?_
    refine WX.thenC ?_
    refine WC.seq ?_
    refine WC.block ?_
    refine WC.seq ?_
    refine WC.region ?_
    refine WL.val (Val.indexAddr rfl rfl (by omega) (by omega)) rfl ?_
    refine WL.val (Val.loadI rfl (by assumption) rfl) rfl ?_
    (refine WL.alloc rfl ?_; intro _)
    refine WL.nApp ?_
    refine WL.stA 1 rfl rfl rfl rfl ?_
    refine WL.nil ?_
    refine WX.thenC ?_
    refine WC.seq ?_
    refine WC.seq ?_
    refine WC.region ?_
    refine WL.val (Val.fldAddr rfl) rfl ?_
    refine WL.val (Val.loadS rfl (Rd.own1 1 rfl rfl)) rfl ?_
    refine WL.val (Val.lss rfl rfl (decide_eq_false (by omega))) rfl ?_
    refine WL.val (Val.moveB rfl) rfl ?_
    refine WL.gT rfl rfl ?_
    refine WL.val (Val.fldAddr rfl) rfl ?_
    refine WL.gT rfl rfl ?_
    refine WL.val (Val.loadS rfl (Rd.own1 1 rfl rfl)) rfl ?_
    refine WL.gT rfl rfl ?_
    refine WL.val (Val.gtr rfl rfl (decide_eq_false (by omega))) rfl ?_
    refine WL.val (Val.pick rfl) rfl ?_
    refine WL.val (Val.moveB rfl) rfl ?_
    refine WL.gT rfl rfl ?_
    refine WL.val (Val.moveB rfl) rfl ?_
    refine WL.gT rfl rfl ?_
    refine WL.val (Val.not rfl) rfl ?_
    refine WL.gT rfl rfl ?_
    refine WL.val (Val.moveB rfl) rfl ?_
    refine WL.gT rfl rfl ?_
    refine WL.val (Val.fldAddr rfl) rfl ?_
    refine WL.gT rfl rfl ?_
    refine WL.val (Val.loadS rfl (Rd.own1 1 rfl rfl)) rfl ?_
    refine WL.gT rfl rfl ?_
    refine WL.val (Val.neq rfl rfl (bne_eq_false_iff_eq.2 (by omega))) rfl ?_
    refine WL.gT rfl rfl ?_
    refine WL.val (Val.pick rfl) rfl ?_
    refine WL.val (Val.pick rfl) rfl ?_
    refine WL.nil ?_
    refine WX.thenC ?_
    refine WC.condF rfl ?_
    refine WC.skip ?_
    refine WX.thenC ?_
    refine WC.seq ?_
    refine WC.seq ?_
    refine WC.region ?_
    refine WL.val (Val.fldAddr rfl) rfl ?_
    refine WL.val (Val.ldO 1 rfl rfl rfl) rfl ?_
    refine WL.val (Val.moveI rfl) rfl ?_
    refine WL.nil ?_
    refine WX.thenC ?_
    refine WC.block ?_
    rename_i g5
    refine WC.loop (fun n ρ' I' L' => ∃ q : Nat, n = 3 - q ∧ q ≤ 3 ∧ I' = I0 ∧ ρ' 3 = .bool false ∧ ρ' 5 = ptr g5 ∧ ρ' 11 = .slice (some ⟨b, off, none⟩) l.length c1 ∧ ρ' 12 = vi l.length ∧ ρ' 13 = vi k ∧ ρ' 35 = .agg #[vi x.p0.x, vi x.p0.y, vi x.p1.x, vi x.p1.y, vi x.p2.x, vi x.p2.y] ∧ ρ' 36 = vi q ∧
        L' = [F, box g5 57 x.cs] ∧ (0 < q → need x.kind ≤ 0 → x.p0 = Pt.z) ∧ (1 < q → need x.kind ≤ 1 → x.p1 = Pt.z) ∧ (2 < q → need x.kind ≤ 2 → x.p2 = Pt.z))
      3 ⟨0, rfl, by omega, rfl, rfl, rfl, rfl, rfl, rfl, rfl, rfl, rfl, fun h => by omega, fun h => by omega, fun h => by omega⟩ ?_
    rintro n ρ' I1 L' ⟨q, rfl, hq3, rfl, r3, r5, r11, r12, r13, r35, r36, rfl, z0, z1, z2⟩
    rw [← upd_self r36, ← upd_self r35, ← upd_self r13, ← upd_self r12, ← upd_self r11, ← upd_self r5, ← upd_self r3]
    clear r36 r35 r13 r12 r11 r5 r3
    have hcase : q = 0 ∨ q = 1 ∨ q = 2 ∨ q = 3 := by omega
    rcases hcase with rfl | rfl | rfl | rfl
    · skip
      refine WC.seq ?_
      refine WC.region ?_
      refine WL.val (Val.lss rfl rfl (decide_eq_true (by omega))) rfl ?_
      refine WL.nil ?_
      refine WX.thenC ?_
      refine WC.seq ?_
      refine WC.condT rfl ?_
      refine WC.skip ?_
      refine WX.thenC ?_
      refine WC.seq ?_
      refine WC.block ?_
      refine WC.seq ?_
      refine WC.region ?_
      refine WL.val (Val.moveI rfl) rfl ?_
      refine WL.val (Val.indexA (vs := x.p0.cs) rfl rfl (by decide) (by decide) rfl) rfl ?_
      (refine WL.alloc rfl ?_; intro _)
      refine WL.nApp ?_
      refine WL.val (Val.assignI rfl) rfl ?_
      refine WL.stA 2 rfl rfl rfl rfl ?_
      refine WL.nil ?_
      refine WX.thenC ?_
      refine WC.seq ?_
      refine WC.region ?_
      refine WL.val (Val.moveI rfl) rfl ?_
      refine WL.val (Val.fldAddr rfl) rfl ?_
      refine WL.val (Val.loadS rfl (Rd.own1 1 rfl rfl)) rfl ?_
      refine WL.callS rfl rfl (need_ctr x.kind _ hN) rfl ?_
      rintro _ rfl
      by_cases hn0 : need x.kind ≤ 0
      · have hn' : (need x.kind : Int) ≤ 0 := by omega
        refine WL.val (Val.geq rfl rfl (decide_eq_true (by omega))) rfl ?_
        refine WL.val (Val.moveB rfl) rfl ?_
        refine WL.gT rfl rfl ?_
        refine WL.val (Val.ldO 2 rfl rfl rfl) rfl ?_
        refine WL.gT rfl rfl ?_
        refine WL.val (Val.build0) rfl ?_
        refine WL.gT rfl rfl ?_
        refine WL.neS rfl rfl rfl rfl rfl (fun h => ?_) (fun h => ?_)
        refine WL.val (Val.pick rfl) rfl ?_
        refine WL.nil ?_
        refine WX.thenC ?_
        refine WC.condT rfl ?_
        refine WC.seq ?_
        refine WC.region ?_
        refine WL.val (Val.assignI rfl) rfl ?_
        refine WL.nil ?_
        refine WX.thenC ?_
        refine WC.ret ?_
        refine WX.inRet ?_
        refine WX.thenRet ?_
        refine WX.thenRet ?_
        refine WX.inRet ?_
        refine WX.thenRet ?_
        refine WX.inRet ?_
        refine WX.thenRet ?_
        refine WX.thenRet ?_
        refine WX.inRet ?_
        refine WX.thenRet ?_
        · skip
          apply WX.doneP (ks := [])
          case hres => exact RunRes.r1 rfl (ResIs.tmpI rfl)
          case hI => first | exact Mem.le.refl _ | assumption
          exact ⟨rfl, rfl, by rw [fin 33 (by decide) (by rw [hc, if_pos (.inl ⟨hn0, fun e => h (by rw [e])⟩)])]⟩
        · skip
          refine WL.val (Val.pick rfl) rfl ?_
          refine WL.nil ?_
          refine WX.thenC ?_
          refine WC.condF rfl ?_
          refine WC.skip ?_
          refine WX.inNormal ?_
          refine WX.thenC ?_
          refine WC.region ?_
          refine WL.val (Val.add rfl rfl (wrap_i64 (by omega) (by omega))) rfl ?_
          refine WL.val (Val.moveI rfl) rfl ?_
          refine WL.nil ?_
          refine WX.conv (fun w h => h.sub [0, 0] rfl) ?_
          exact WX.thenK (WK.round 2 (by omega) ⟨1, rfl, by omega, rfl, rfl, rfl, rfl, rfl, rfl, rfl, rfl, rfl, fun _ _ => Pt.inj h, fun h => by omega, fun h => by omega⟩)
      · have hn' : ¬ (need x.kind : Int) ≤ 0 := by omega
        refine WL.val (Val.geq rfl rfl (decide_eq_false (by omega))) rfl ?_
        refine WL.val (Val.moveB rfl) rfl ?_
        refine WL.gF rfl rfl rfl rfl ?_
        refine WL.gF rfl rfl rfl rfl ?_
        refine WL.gF rfl rfl rfl rfl ?_
        refine WL.val (Val.pick rfl) rfl ?_
        refine WL.nil ?_
        refine WX.thenC ?_
        refine WC.condF rfl ?_
        refine WC.skip ?_
        refine WX.inNormal ?_
        refine WX.thenC ?_
        refine WC.region ?_
        refine WL.val (Val.add rfl rfl (wrap_i64 (by omega) (by omega))) rfl ?_
        refine WL.val (Val.moveI rfl) rfl ?_
        refine WL.nil ?_
        refine WX.conv (fun w h => h.sub [0, 0] rfl) ?_
        exact WX.thenK (WK.round 2 (by omega) ⟨1, rfl, by omega, rfl, rfl, rfl, rfl, rfl, rfl, rfl, rfl, rfl, fun _ h => absurd h hn0, fun h => by omega, fun h => by omega⟩)
    · skip
      refine WC.seq ?_
      refine WC.region ?_
      refine WL.val (Val.lss rfl rfl (decide_eq_true (by omega))) rfl ?_
      refine WL.nil ?_
      refine WX.thenC ?_
      refine WC.seq ?_
      refine WC.condT rfl ?_
      refine WC.skip ?_
      refine WX.thenC ?_
      refine WC.seq ?_
      refine WC.block ?_
      refine WC.seq ?_
      refine WC.region ?_
      refine WL.val (Val.moveI rfl) rfl ?_
      refine WL.val (Val.indexA (vs := x.p1.cs) rfl rfl (by decide) (by decide) rfl) rfl ?_
      (refine WL.alloc rfl ?_; intro _)
      refine WL.nApp ?_
      refine WL.val (Val.assignI rfl) rfl ?_
      refine WL.stA 2 rfl rfl rfl rfl ?_
      refine WL.nil ?_
      refine WX.thenC ?_
      refine WC.seq ?_
      refine WC.region ?_
      refine WL.val (Val.moveI rfl) rfl ?_
      refine WL.val (Val.fldAddr rfl) rfl ?_
      refine WL.val (Val.loadS rfl (Rd.own1 1 rfl rfl)) rfl ?_
      refine WL.callS rfl rfl (need_ctr x.kind _ hN) rfl ?_
      rintro _ rfl
      by_cases hn0 : need x.kind ≤ 1
      · have hn' : (need x.kind : Int) ≤ 1 := by omega
        refine WL.val (Val.geq rfl rfl (decide_eq_true (by omega))) rfl ?_
        refine WL.val (Val.moveB rfl) rfl ?_
        refine WL.gT rfl rfl ?_
        refine WL.val (Val.ldO 2 rfl rfl rfl) rfl ?_
        refine WL.gT rfl rfl ?_
        refine WL.val (Val.build0) rfl ?_
        refine WL.gT rfl rfl ?_
        refine WL.neS rfl rfl rfl rfl rfl (fun h => ?_) (fun h => ?_)
        refine WL.val (Val.pick rfl) rfl ?_
        refine WL.nil ?_
        refine WX.thenC ?_
        refine WC.condT rfl ?_
        refine WC.seq ?_
        refine WC.region ?_
        refine WL.val (Val.assignI rfl) rfl ?_
        refine WL.nil ?_
        refine WX.thenC ?_
        refine WC.ret ?_
        refine WX.inRet ?_
        refine WX.thenRet ?_
        refine WX.thenRet ?_
        refine WX.inRet ?_
        refine WX.thenRet ?_
        refine WX.inRet ?_
        refine WX.thenRet ?_
        refine WX.thenRet ?_
        refine WX.inRet ?_
        refine WX.thenRet ?_
        · skip
          apply WX.doneP (ks := [])
          case hres => exact RunRes.r1 rfl (ResIs.tmpI rfl)
          case hI => first | exact Mem.le.refl _ | assumption
          exact ⟨rfl, rfl, by rw [fin 33 (by decide) (by rw [hc, if_pos (.inr (.inl ⟨hn0, fun e => h (by rw [e])⟩))])]⟩
        · skip
          refine WL.val (Val.pick rfl) rfl ?_
          refine WL.nil ?_
          refine WX.thenC ?_
          refine WC.condF rfl ?_
          refine WC.skip ?_
          refine WX.inNormal ?_
          refine WX.thenC ?_
          refine WC.region ?_
          refine WL.val (Val.add rfl rfl (wrap_i64 (by omega) (by omega))) rfl ?_
          refine WL.val (Val.moveI rfl) rfl ?_
          refine WL.nil ?_
          refine WX.conv (fun w h => h.sub [0, 0] rfl) ?_
          exact WX.thenK (WK.round 1 (by omega) ⟨2, rfl, by omega, rfl, rfl, rfl, rfl, rfl, rfl, rfl, rfl, rfl, fun _ => z0 (by omega), fun _ _ => Pt.inj h, fun h => by omega⟩)
      · have hn' : ¬ (need x.kind : Int) ≤ 1 := by omega
        refine WL.val (Val.geq rfl rfl (decide_eq_false (by omega))) rfl ?_
        refine WL.val (Val.moveB rfl) rfl ?_
        refine WL.gF rfl rfl rfl rfl ?_
        refine WL.gF rfl rfl rfl rfl ?_
        refine WL.gF rfl rfl rfl rfl ?_
        refine WL.val (Val.pick rfl) rfl ?_
        refine WL.nil ?_
        refine WX.thenC ?_
        refine WC.condF rfl ?_
        refine WC.skip ?_
        refine WX.inNormal ?_
        refine WX.thenC ?_
        refine WC.region ?_
        refine WL.val (Val.add rfl rfl (wrap_i64 (by omega) (by omega))) rfl ?_
        refine WL.val (Val.moveI rfl) rfl ?_
        refine WL.nil ?_
        refine WX.conv (fun w h => h.sub [0, 0] rfl) ?_
        exact WX.thenK (WK.round 1 (by omega) ⟨2, rfl, by omega, rfl, rfl, rfl, rfl, rfl, rfl, rfl, rfl, rfl, fun _ => z0 (by omega), fun _ h => absurd h hn0, fun h => by omega⟩)
    · skip
      refine WC.seq ?_
      refine WC.region ?_
      refine WL.val (Val.lss rfl rfl (decide_eq_true (by omega))) rfl ?_
      refine WL.nil ?_
      refine WX.thenC ?_
      refine WC.seq ?_
      refine WC.condT rfl ?_
      refine WC.skip ?_
      refine WX.thenC ?_
      refine WC.seq ?_
      refine WC.block ?_
      refine WC.seq ?_
      refine WC.region ?_
      refine WL.val (Val.moveI rfl) rfl ?_
      refine WL.val (Val.indexA (vs := x.p2.cs) rfl rfl (by decide) (by decide) rfl) rfl ?_
      (refine WL.alloc rfl ?_; intro _)
      refine WL.nApp ?_
      refine WL.val (Val.assignI rfl) rfl ?_
      refine WL.stA 2 rfl rfl rfl rfl ?_
      refine WL.nil ?_
      refine WX.thenC ?_
      refine WC.seq ?_
      refine WC.region ?_
      refine WL.val (Val.moveI rfl) rfl ?_
      refine WL.val (Val.fldAddr rfl) rfl ?_
      refine WL.val (Val.loadS rfl (Rd.own1 1 rfl rfl)) rfl ?_
      refine WL.callS rfl rfl (need_ctr x.kind _ hN) rfl ?_
      rintro _ rfl
      by_cases hn0 : need x.kind ≤ 2
      · have hn' : (need x.kind : Int) ≤ 2 := by omega
        refine WL.val (Val.geq rfl rfl (decide_eq_true (by omega))) rfl ?_
        refine WL.val (Val.moveB rfl) rfl ?_
        refine WL.gT rfl rfl ?_
        refine WL.val (Val.ldO 2 rfl rfl rfl) rfl ?_
        refine WL.gT rfl rfl ?_
        refine WL.val (Val.build0) rfl ?_
        refine WL.gT rfl rfl ?_
        refine WL.neS rfl rfl rfl rfl rfl (fun h => ?_) (fun h => ?_)
        refine WL.val (Val.pick rfl) rfl ?_
        refine WL.nil ?_
        refine WX.thenC ?_
        refine WC.condT rfl ?_
        refine WC.seq ?_
        refine WC.region ?_
        refine WL.val (Val.assignI rfl) rfl ?_
        refine WL.nil ?_
        refine WX.thenC ?_
        refine WC.ret ?_
        refine WX.inRet ?_
        refine WX.thenRet ?_
        refine WX.thenRet ?_
        refine WX.inRet ?_
        refine WX.thenRet ?_
        refine WX.inRet ?_
        refine WX.thenRet ?_
        refine WX.thenRet ?_
        refine WX.inRet ?_
        refine WX.thenRet ?_
        · skip
          apply WX.doneP (ks := [])
          case hres => exact RunRes.r1 rfl (ResIs.tmpI rfl)
          case hI => first | exact Mem.le.refl _ | assumption
          exact ⟨rfl, rfl, by rw [fin 33 (by decide) (by rw [hc, if_pos (.inr (.inr ⟨hn0, fun e => h (by rw [e])⟩))])]⟩
        · skip
          refine WL.val (Val.pick rfl) rfl ?_
          refine WL.nil ?_
          refine WX.thenC ?_
          refine WC.condF rfl ?_
          refine WC.skip ?_
          refine WX.inNormal ?_
          refine WX.thenC ?_
          refine WC.region ?_
          refine WL.val (Val.add rfl rfl (wrap_i64 (by omega) (by omega))) rfl ?_
          refine WL.val (Val.moveI rfl) rfl ?_
          refine WL.nil ?_
          refine WX.conv (fun w h => h.sub [0, 0] rfl) ?_
          exact WX.thenK (WK.round 0 (by omega) ⟨3, rfl, by omega, rfl, rfl, rfl, rfl, rfl, rfl, rfl, rfl, rfl, fun _ => z0 (by omega), fun _ => z1 (by omega), fun _ _ => Pt.inj h⟩)
      · have hn' : ¬ (need x.kind : Int) ≤ 2 := by omega
        refine WL.val (Val.geq rfl rfl (decide_eq_false (by omega))) rfl ?_
        refine WL.val (Val.moveB rfl) rfl ?_
        refine WL.gF rfl rfl rfl rfl ?_
        refine WL.gF rfl rfl rfl rfl ?_
        refine WL.gF rfl rfl rfl rfl ?_
        refine WL.val (Val.pick rfl) rfl ?_
        refine WL.nil ?_
        refine WX.thenC ?_
        refine WC.condF rfl ?_
        refine WC.skip ?_
        refine WX.inNormal ?_
        refine WX.thenC ?_
        refine WC.region ?_
        refine WL.val (Val.add rfl rfl (wrap_i64 (by omega) (by omega))) rfl ?_
        refine WL.val (Val.moveI rfl) rfl ?_
        refine WL.nil ?_
        refine WX.conv (fun w h => h.sub [0, 0] rfl) ?_
        exact WX.thenK (WK.round 0 (by omega) ⟨3, rfl, by omega, rfl, rfl, rfl, rfl, rfl, rfl, rfl, rfl, rfl, fun _ => z0 (by omega), fun _ => z1 (by omega), fun _ h => absurd h hn0⟩)
    · have z0' := z0 (by omega)
      have z1' := z1 (by omega)
      have z2' := z2 (by omega)
      rw [if_neg (fun e => e.elim (fun e => e.2 (z0' e.1)) fun e => e.elim (fun e => e.2 (z1' e.1)) fun e => e.2 (z2' e.1))] at hc
      refine WC.seq ?_
      refine WC.region ?_
      refine WL.val (Val.lss rfl rfl (decide_eq_false (by omega))) rfl ?_
      refine WL.nil ?_
      refine WX.thenC ?_
      refine WC.seq ?_
      refine WC.condF rfl ?_
      refine WC.exit ?_
      refine WX.thenExit ?_
      refine WX.thenExit ?_
      refine WX.inHit ?_
      refine WX.thenC ?_
      refine WC.seq ?_
      refine WC.seq ?_
      refine WC.region ?_
      refine WL.callK [1] rfl rfl rfl (points_ctr x g5 _ hN) rfl ?_
      rintro _ rfl
      skip
      refine WL.callK [1] rfl rfl rfl (contains_ctr x g5 (need x.kind) hn _) rfl ?_
      rintro _ ⟨bb, rfl, hbb⟩
      cases bb with
      | true =>
        obtain ⟨j, hj, hnj⟩ := hbb.1 rfl
        have h2 : (0 < need x.kind ∧ ¬ x.p0.inn) ∨ (1 < need x.kind ∧ ¬ x.p1.inn) ∨ (2 < need x.kind ∧ ¬ x.p2.inn) := by
          have hj3 : j = 0 ∨ j = 1 ∨ j = 2 := by omega
          rcases hj3 with rfl | rfl | rfl
          · exact .inl ⟨hj, hnj⟩
          · exact .inr (.inl ⟨hj, hnj⟩)
          · exact .inr (.inr ⟨hj, hnj⟩)
        refine WL.nil ?_
        refine WX.thenC ?_
        refine WC.condT rfl ?_
        refine WC.seq ?_
        refine WC.region ?_
        refine WL.val (Val.assignI rfl) rfl ?_
        refine WL.nil ?_
        refine WX.thenC ?_
        refine WC.ret ?_
        refine WX.thenRet ?_
        refine WX.inRet ?_
        refine WX.thenRet ?_
        refine WX.thenRet ?_
        refine WX.inRet ?_
        refine WX.thenRet ?_
        apply WX.doneP (ks := [])
        case hres => exact RunRes.r1 rfl (ResIs.tmpI rfl)
        case hI => first | exact Mem.le.refl _ | assumption
        exact ⟨rfl, rfl, by rw [fin 30 (by decide) (by rw [hc, if_pos h2])]⟩
      | false =>
        have h2 : ¬ ((0 < need x.kind ∧ ¬ x.p0.inn) ∨ (1 < need x.kind ∧ ¬ x.p1.inn) ∨ (2 < need x.kind ∧ ¬ x.p2.inn)) := fun e => by
          have hno : ¬ ∃ k < need x.kind, ¬ (x.point k).inn := fun e => by
            have := hbb.2 e
            cases this
          rcases e with e | e | e
          · exact hno ⟨0, e.1, e.2⟩
          · exact hno ⟨1, e.1, e.2⟩
          · exact hno ⟨2, e.1, e.2⟩
        rw [if_neg h2] at hc
        rw [if_neg (fun e => e hc)] at hgo
        rw [if_neg (fun e => e hc)]
        by_cases h5 : x.kind = 5
        · omega
        · rw [decide_eq_true h5] at hgo
          refine WL.nil ?_
          refine WX.thenC ?_
          refine WC.condF rfl ?_
          refine WC.skip ?_
          refine WX.thenC ?_
          refine WC.region ?_
          refine WL.val (Val.fldAddr rfl) rfl ?_
          refine WL.val (Val.loadS rfl (Rd.own1 1 rfl rfl)) rfl ?_
          refine WL.val (Val.neq rfl rfl (bne_iff_ne.2 (by omega))) rfl ?_
          refine WL.val (Val.assignB rfl) rfl ?_
          refine WL.nil ?_
          refine WX.inNormal ?_
          refine WX.thenC ?_
          refine WC.region ?_
          refine WL.val (Val.add rfl rfl (wrap_i64 (by omega) (by omega))) rfl ?_
          refine WL.val (Val.moveI rfl) rfl ?_
          refine WL.nil ?_
          refine WX.conv (fun w h => h.sub [0] rfl) ?_
          rw [decide_eq_true h5, ← hgo]
          exact WX.thenK (WK.round (l.length - (k + 1)) (by omega) ⟨k + 1, true, rfl, by omega, rfl, rfl, rfl, rfl, rfl, rfl, hgo⟩)
end Go.Proofs.YtggcpoleklcmkaaGreatDoor
