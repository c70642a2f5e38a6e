/-
 Drawings, the walks: styles that are right.
-/
import Derived.Test.YtggcpoleklcmkaaGreatDoorX2
import Derived.Test.YtggcpoleklcmkaaGreatDoorX9
import Derived.Test.YtggcpoleklcmkaaGreatDoorX3
import Derived.Test.YtggcpoleklcmkaaGreatDoorX8
set_option linter.unusedVariables false
set_option linter.unusedSimpArgs false
set_option maxRecDepth 100000
set_option maxHeartbeats 8000000
namespace Go.Proofs.YtggcpoleklcmkaaGreatDoor
open Go.Sl Go.Ls Go.Dc
attribute [local irreducible] WC WL WX WK WA WAK Val Ctr RunRes ResIs Rd At sl box pt Exit.then Exit.inBlock bodyPost Code.wp wpList
theorem sty_ctr (s : Sty) (t u d : Value) (I : Mem) (hs : s.at_ I t u d) : Ctr Tryz.prog 17 [.agg (s.cs t u d).toArray] I [] (Still I fun r => r = vi s.check) := by
 have hf := hs.fill
 have hp := hs.pen
 have hd := hs.dash
 obtain ⟨a1, c1, a2, c2, a3, c3, rfl, rfl, rfl⟩ := hs.sl
 clear hs
 refine Ctr.intro Tryz.func17 rfl rfl rfl fun E F => ?_
 refine jS (WL.boxA rfl rfl (fun _ => ?_))
 refine jW ?_
 refine jf rfl (jM (jB (jS (jm (jn rfl) (jm (jt 1 rfl rfl rfl) (jm (jn rfl) (jm (jt 1 rfl rfl rfl) (WL.buildSlice (by with_unfolding_all exact rfl) rfl (by with_unfolding_all exact rfl) rfl (fun _ => ?_)))))))))
 refine jW ?_
 refine jm (jo rfl) (ja rfl (jM (WC.block ?_)))
 rename_i g1 g2
 refine WC.loop (fun n ρ' I' L' => ∃ k : Nat, n = 2 - k ∧ k ≤ 2 ∧ I' = I ∧ ρ' 1 = ptr g1 ∧ ρ' 12 = .slice (some ⟨g2, 0, none⟩) 2 2 ∧ ρ' 13 = vi 2 ∧ ρ' 14 = vi k ∧ L' = [F, box g1 35 (s.cs (Value.slice a1 s.fill.stops.length c1) (Value.slice a2 s.pen.stops.length c2) (Value.slice a3 s.dash.length c3)), box g2 30 [vi s.fill.kind, byt s.fill.col.r, byt s.fill.col.g, byt s.fill.col.b, byt s.fill.col.a, vi s.fill.frm.x, vi s.fill.frm.y, vi s.fill.to.x, vi s.fill.to.y, Value.slice a1 s.fill.stops.length c1, vi s.pen.kind, byt s.pen.col.r, byt s.pen.col.g, byt s.pen.col.b, byt s.pen.col.a, vi s.pen.frm.x, vi s.pen.frm.y, vi s.pen.to.x, vi s.pen.to.y, Value.slice a2 s.pen.stops.length c2]] ∧ (0 < k → s.fill.check = 0) ∧ (1 < k → s.pen.check = 0))
  2 ⟨0, rfl, by omega, rfl, rfl, rfl, rfl, rfl, rfl, fun h => by omega, fun h => by omega⟩ ?_
 rintro n ρ' I0 L' ⟨k, rfl, hk, rfl, r1, r12, r13, r14, rfl, q0, q1⟩
 refine ju4 r14 r13 r12 r1 ?_
 have hcase : k = 0 ∨ k = 1 ∨ k = 2 := by omega
 rcases hcase with rfl | rfl | rfl
 ·skip
  refine jS (jy rfl rfl (jM (jB (jF (jV (jA (jB (WC.block (jS (jm (jZ rfl rfl) (jm (Val.loadO 2 rfl rfl rfl) ?_)))))))))))
  refine WL.alloc rfl (fun _ => ?_)
  refine jW ?_
  refine WL.store 3 rfl rfl rfl ?_
  refine WL.nSet ?_
  refine jN (jm (Val.loadO 3 rfl rfl rfl) ?_)
  refine WL.callS rfl rfl (pnt_ctr s.fill _ _ hf) rfl ?_
  rintro _ rfl
  by_cases hq : s.fill.check = 0
  ·skip
   exact jf rfl (jN (ja rfl (jz rfl rfl (jM (jE (jV (WX.inNormal (jA (jD (jX rfl rfl (ja rfl (jC (WX.conv (fun w h => h.sub [0, 0, 0] rfl) (WX.thenK (WK.round 1 (by omega) ⟨1, rfl, by omega, rfl, rfl, rfl, rfl, rfl, rfl, fun _ => hq, fun h => by omega⟩)))))))))))))))
  ·skip
   refine jf rfl (jN (ja rfl (jJ rfl rfl (jM (jF (jS (ja rfl (jf rfl (jM (jR (WX.inRet (jU (jU (WX.inRet (jU ?_)))))))))))))))
   exact jP [] (jr1 rfl (jtI rfl)) ⟨rfl, rfl, by rw [Sty.check, if_pos hq]⟩
 ·have q0' := q0 (by omega)
  refine jS (jy rfl rfl (jM (jB (jF (jV (jA (jB (WC.block (jS (jm (jZ rfl rfl) (jm (Val.loadO 2 rfl rfl rfl) ?_)))))))))))
  refine WL.alloc rfl (fun _ => ?_)
  refine jW ?_
  refine WL.store 3 rfl rfl rfl ?_
  refine WL.nSet ?_
  refine jN (jm (Val.loadO 3 rfl rfl rfl) ?_)
  refine WL.callS rfl rfl (pnt_ctr s.pen _ _ hp) rfl ?_
  rintro _ rfl
  by_cases hq : s.pen.check = 0
  ·skip
   exact jf rfl (jN (ja rfl (jz rfl rfl (jM (jE (jV (WX.inNormal (jA (jD (jX rfl rfl (ja rfl (jC (WX.conv (fun w h => h.sub [0, 0, 0] rfl) (WX.thenK (WK.round 0 (by omega) ⟨2, rfl, by omega, rfl, rfl, rfl, rfl, rfl, rfl, fun _ => q0', fun _ => hq⟩)))))))))))))))
  ·skip
   refine jf rfl (jN (ja rfl (jJ rfl rfl (jM (jF (jS (ja rfl (jf rfl (jM (jR (WX.inRet (jU (jU (WX.inRet (jU ?_)))))))))))))))
   exact jP [] (jr1 rfl (jtI rfl)) ⟨rfl, rfl, by rw [Sty.check, if_neg (fun e => e q0'), if_pos hq]⟩
 have hc : s.check = if ¬ s.nums then 30 else dashCheck s.dash s.phase := by
  rw [Sty.check, if_neg (fun e => e (q0 (by omega))), if_neg (fun e => e (q1 (by omega)))]
 rw [hc]
 clear hc
 refine jS (jx rfl rfl (jM (jB (jE (WC.exit (WX.thenExit (WX.thenExit (WX.inHit (jA (jB (jS (jm (jn rfl) (jm (jp 1 rfl rfl rfl) (jm (Val.build (cs := [vi s.rule, vi 1, vi 2]) rfl) ?_))))))))))))))
 refine jm (jn rfl) (jm (jp 1 rfl rfl rfl) (jm (Val.build (cs := [vi s.half, vi 0, vi 32768]) rfl) ?_))
 refine jm (jn rfl) (jm (jp 1 rfl rfl rfl) (jm (Val.build (cs := [vi s.cap, vi 0, vi 2]) rfl) ?_))
 refine jm (jn rfl) (jm (jp 1 rfl rfl rfl) (jm (Val.build (cs := [vi s.opac, vi 0, vi 255]) rfl) ?_))
 refine jm (jn rfl) (jm (jp 1 rfl rfl rfl) (jm (Val.build (cs := [vi s.mode, vi 0, vi 4]) rfl) ?_))
 refine WL.buildSlice (by with_unfolding_all exact rfl) rfl (by with_unfolding_all exact rfl) rfl (fun _ => ?_)
 refine jW ?_
 refine jm (jo rfl) (ja rfl (jM (WC.block ?_)))
 rename_i g3
 refine WC.conv (fun w h => h.sub [0, 0, 1] rfl) ?_
 refine WC.loop (fun n ρ' I' L' => ∃ k : Nat, n = 5 - k ∧ k ≤ 5 ∧ I' = I0 ∧ ρ' 1 = ptr g1 ∧ ρ' 39 = .slice (some ⟨g3, 0, none⟩) 5 5 ∧ ρ' 40 = vi 5 ∧ ρ' 41 = vi k ∧ L' = [F, box g1 35 (s.cs (Value.slice a1 s.fill.stops.length c1) (Value.slice a2 s.pen.stops.length c2) (Value.slice a3 s.dash.length c3)), box g3 118 [vi s.rule, vi 1, vi 2, vi s.half, vi 0, vi 32768, vi s.cap, vi 0, vi 2, vi s.opac, vi 0, vi 255, vi s.mode, vi 0, vi 4]] ∧ (0 < k → 1 ≤ s.rule ∧ s.rule ≤ 2) ∧ (1 < k → 0 ≤ s.half ∧ s.half ≤ 32768) ∧ (2 < k → 0 ≤ s.cap ∧ s.cap ≤ 2) ∧ (3 < k → 0 ≤ s.opac ∧ s.opac ≤ 255) ∧ (4 < k → 0 ≤ s.mode ∧ s.mode ≤ 4))
  5 ⟨0, rfl, by omega, rfl, rfl, rfl, rfl, rfl, rfl, fun h => by omega, fun h => by omega, fun h => by omega, fun h => by omega, fun h => by omega⟩ ?_
 rintro n ρ' I1 L' ⟨k, rfl, hk5, rfl, r1, r39, r40, r41, rfl, q0, q1, q2, q3, q4⟩
 refine ju4 r41 r40 r39 r1 ?_
 have hcase : k = 0 ∨ k = 1 ∨ k = 2 ∨ k = 3 ∨ k = 4 ∨ k = 5 := by omega
 rcases hcase with rfl | rfl | rfl | rfl | rfl | rfl
 ·by_cases hq : 1 ≤ s.rule ∧ s.rule ≤ 2
  ·skip
   refine jS (jy rfl rfl (jM (jB (jF (jV (jA (jB (WC.block (jS (jm (jZ rfl rfl) (jm (Val.loadO 2 rfl rfl rfl) ?_)))))))))))
   refine WL.alloc rfl (fun _ => ?_)
   refine jW ?_
   refine WL.store 3 rfl rfl rfl ?_
   refine WL.nSet ?_
   exact jN (jm (jn rfl) (jm (jp 3 rfl rfl rfl) (jm (jn rfl) (jm (jp 3 rfl rfl rfl) (jx rfl rfl (jb rfl (jG (jm (jn rfl) (jG (jm (jp 3 rfl rfl rfl) (jG (jm (jn rfl) (jG (jm (jp 3 rfl rfl rfl) (jG (jL rfl rfl (jk rfl (jM (jE (jV (WX.inNormal (jA (jD (jX rfl rfl (ja rfl (jC (WX.conv (fun w h => h.sub [0, 0, 0] rfl) (WX.thenK (WK.round 4 (by omega) ⟨1, rfl, by omega, rfl, rfl, rfl, rfl, rfl, rfl, fun _ => hq, fun h => by omega, fun h => by omega, fun h => by omega, fun h => by omega⟩)))))))))))))))))))))))))))))
  ·rw [if_pos (fun e => hq e.1)]
   refine jS (jy rfl rfl (jM (jB (jF (jV (jA (jB (WC.block (jS (jm (jZ rfl rfl) (jm (Val.loadO 2 rfl rfl rfl) ?_)))))))))))
   refine WL.alloc rfl (fun _ => ?_)
   refine jW ?_
   refine WL.store 3 rfl rfl rfl ?_
   refine WL.nSet ?_
   refine jN (jm (jn rfl) (jm (jp 3 rfl rfl rfl) (jm (jn rfl) (jm (jp 3 rfl rfl rfl) ?_))))
   refine WL.ltI rfl rfl rfl (fun h => ?_) (fun h => ?_)
   refine jb rfl (jH (jH (jH (jH (jH (jk rfl (jM (jF (jS (jf rfl (jM (jR (WX.inRet (jU (jU (WX.inRet (jU ?_)))))))))))))))))
   rotate_left
   refine jb rfl (jG (jm (jn rfl) (jG (jm (jp 3 rfl rfl rfl) (jG (jm (jn rfl) (jG (jm (jp 3 rfl rfl rfl) (jG (jO rfl rfl (jk rfl (jM (jF (jS (jf rfl (jM (jR (WX.inRet (jU (jU (WX.inRet (jU ?_))))))))))))))))))))))
   rotate_left
   all_goals
    refine jP [] (jr1 rfl (jtI rfl)) ?_
   all_goals exact ⟨rfl, rfl, rfl⟩
 ·by_cases hq : 0 ≤ s.half ∧ s.half ≤ 32768
  ·skip
   refine jS (jy rfl rfl (jM (jB (jF (jV (jA (jB (WC.block (jS (jm (jZ rfl rfl) (jm (Val.loadO 2 rfl rfl rfl) ?_)))))))))))
   refine WL.alloc rfl (fun _ => ?_)
   refine jW ?_
   refine WL.store 3 rfl rfl rfl ?_
   refine WL.nSet ?_
   exact jN (jm (jn rfl) (jm (jp 3 rfl rfl rfl) (jm (jn rfl) (jm (jp 3 rfl rfl rfl) (jx rfl rfl (jb rfl (jG (jm (jn rfl) (jG (jm (jp 3 rfl rfl rfl) (jG (jm (jn rfl) (jG (jm (jp 3 rfl rfl rfl) (jG (jL rfl rfl (jk rfl (jM (jE (jV (WX.inNormal (jA (jD (jX rfl rfl (ja rfl (jC (WX.conv (fun w h => h.sub [0, 0, 0] rfl) (WX.thenK (WK.round 3 (by omega) ⟨2, rfl, by omega, rfl, rfl, rfl, rfl, rfl, rfl, fun _ => q0 (by omega), fun _ => hq, fun h => by omega, fun h => by omega, fun h => by omega⟩)))))))))))))))))))))))))))))
  ·rw [if_pos (fun e => hq e.2.1)]
   refine jS (jy rfl rfl (jM (jB (jF (jV (jA (jB (WC.block (jS (jm (jZ rfl rfl) (jm (Val.loadO 2 rfl rfl rfl) ?_)))))))))))
   refine WL.alloc rfl (fun _ => ?_)
   refine jW ?_
   refine WL.store 3 rfl rfl rfl ?_
   refine WL.nSet ?_
   refine jN (jm (jn rfl) (jm (jp 3 rfl rfl rfl) (jm (jn rfl) (jm (jp 3 rfl rfl rfl) ?_))))
   refine WL.ltI rfl rfl rfl (fun h => ?_) (fun h => ?_)
   refine jb rfl (jH (jH (jH (jH (jH (jk rfl (jM (jF (jS (jf rfl (jM (jR (WX.inRet (jU (jU (WX.inRet (jU ?_)))))))))))))))))
   rotate_left
   refine jb rfl (jG (jm (jn rfl) (jG (jm (jp 3 rfl rfl rfl) (jG (jm (jn rfl) (jG (jm (jp 3 rfl rfl rfl) (jG (jO rfl rfl (jk rfl (jM (jF (jS (jf rfl (jM (jR (WX.inRet (jU (jU (WX.inRet (jU ?_))))))))))))))))))))))
   rotate_left
   all_goals
    refine jP [] (jr1 rfl (jtI rfl)) ?_
   all_goals exact ⟨rfl, rfl, rfl⟩
 ·by_cases hq : 0 ≤ s.cap ∧ s.cap ≤ 2
  ·skip
   refine jS (jy rfl rfl (jM (jB (jF (jV (jA (jB (WC.block (jS (jm (jZ rfl rfl) (jm (Val.loadO 2 rfl rfl rfl) ?_)))))))))))
   refine WL.alloc rfl (fun _ => ?_)
   refine jW ?_
   refine WL.store 3 rfl rfl rfl ?_
   refine WL.nSet ?_
   exact jN (jm (jn rfl) (jm (jp 3 rfl rfl rfl) (jm (jn rfl) (jm (jp 3 rfl rfl rfl) (jx rfl rfl (jb rfl (jG (jm (jn rfl) (jG (jm (jp 3 rfl rfl rfl) (jG (jm (jn rfl) (jG (jm (jp 3 rfl rfl rfl) (jG (jL rfl rfl (jk rfl (jM (jE (jV (WX.inNormal (jA (jD (jX rfl rfl (ja rfl (jC (WX.conv (fun w h => h.sub [0, 0, 0] rfl) (WX.thenK (WK.round 2 (by omega) ⟨3, rfl, by omega, rfl, rfl, rfl, rfl, rfl, rfl, fun _ => q0 (by omega), fun _ => q1 (by omega), fun _ => hq, fun h => by omega, fun h => by omega⟩)))))))))))))))))))))))))))))
  ·rw [if_pos (fun e => hq e.2.2.1)]
   refine jS (jy rfl rfl (jM (jB (jF (jV (jA (jB (WC.block (jS (jm (jZ rfl rfl) (jm (Val.loadO 2 rfl rfl rfl) ?_)))))))))))
   refine WL.alloc rfl (fun _ => ?_)
   refine jW ?_
   refine WL.store 3 rfl rfl rfl ?_
   refine WL.nSet ?_
   refine jN (jm (jn rfl) (jm (jp 3 rfl rfl rfl) (jm (jn rfl) (jm (jp 3 rfl rfl rfl) ?_))))
   refine WL.ltI rfl rfl rfl (fun h => ?_) (fun h => ?_)
   refine jb rfl (jH (jH (jH (jH (jH (jk rfl (jM (jF (jS (jf rfl (jM (jR (WX.inRet (jU (jU (WX.inRet (jU ?_)))))))))))))))))
   rotate_left
   refine jb rfl (jG (jm (jn rfl) (jG (jm (jp 3 rfl rfl rfl) (jG (jm (jn rfl) (jG (jm (jp 3 rfl rfl rfl) (jG (jO rfl rfl (jk rfl (jM (jF (jS (jf rfl (jM (jR (WX.inRet (jU (jU (WX.inRet (jU ?_))))))))))))))))))))))
   rotate_left
   all_goals
    refine jP [] (jr1 rfl (jtI rfl)) ?_
   all_goals exact ⟨rfl, rfl, rfl⟩
 ·by_cases hq : 0 ≤ s.opac ∧ s.opac ≤ 255
  ·skip
   refine jS (jy rfl rfl (jM (jB (jF (jV (jA (jB (WC.block (jS (jm (jZ rfl rfl) (jm (Val.loadO 2 rfl rfl rfl) ?_)))))))))))
   refine WL.alloc rfl (fun _ => ?_)
   refine jW ?_
   refine WL.store 3 rfl rfl rfl ?_
   refine WL.nSet ?_
   exact jN (jm (jn rfl) (jm (jp 3 rfl rfl rfl) (jm (jn rfl) (jm (jp 3 rfl rfl rfl) (jx rfl rfl (jb rfl (jG (jm (jn rfl) (jG (jm (jp 3 rfl rfl rfl) (jG (jm (jn rfl) (jG (jm (jp 3 rfl rfl rfl) (jG (jL rfl rfl (jk rfl (jM (jE (jV (WX.inNormal (jA (jD (jX rfl rfl (ja rfl (jC (WX.conv (fun w h => h.sub [0, 0, 0] rfl) (WX.thenK (WK.round 1 (by omega) ⟨4, rfl, by omega, rfl, rfl, rfl, rfl, rfl, rfl, fun _ => q0 (by omega), fun _ => q1 (by omega), fun _ => q2 (by omega), fun _ => hq, fun h => by omega⟩)))))))))))))))))))))))))))))
  ·rw [if_pos (fun e => hq e.2.2.2.1)]
   refine jS (jy rfl rfl (jM (jB (jF (jV (jA (jB (WC.block (jS (jm (jZ rfl rfl) (jm (Val.loadO 2 rfl rfl rfl) ?_)))))))))))
   refine WL.alloc rfl (fun _ => ?_)
   refine jW ?_
   refine WL.store 3 rfl rfl rfl ?_
   refine WL.nSet ?_
   refine jN (jm (jn rfl) (jm (jp 3 rfl rfl rfl) (jm (jn rfl) (jm (jp 3 rfl rfl rfl) ?_))))
   refine WL.ltI rfl rfl rfl (fun h => ?_) (fun h => ?_)
   refine jb rfl (jH (jH (jH (jH (jH (jk rfl (jM (jF (jS (jf rfl (jM (jR (WX.inRet (jU (jU (WX.inRet (jU ?_)))))))))))))))))
   rotate_left
   refine jb rfl (jG (jm (jn rfl) (jG (jm (jp 3 rfl rfl rfl) (jG (jm (jn rfl) (jG (jm (jp 3 rfl rfl rfl) (jG (jO rfl rfl (jk rfl (jM (jF (jS (jf rfl (jM (jR (WX.inRet (jU (jU (WX.inRet (jU ?_))))))))))))))))))))))
   rotate_left
   all_goals
    refine jP [] (jr1 rfl (jtI rfl)) ?_
   all_goals exact ⟨rfl, rfl, rfl⟩
 ·by_cases hq : 0 ≤ s.mode ∧ s.mode ≤ 4
  ·skip
   refine jS (jy rfl rfl (jM (jB (jF (jV (jA (jB (WC.block (jS (jm (jZ rfl rfl) (jm (Val.loadO 2 rfl rfl rfl) ?_)))))))))))
   refine WL.alloc rfl (fun _ => ?_)
   refine jW ?_
   refine WL.store 3 rfl rfl rfl ?_
   refine WL.nSet ?_
   exact jN (jm (jn rfl) (jm (jp 3 rfl rfl rfl) (jm (jn rfl) (jm (jp 3 rfl rfl rfl) (jx rfl rfl (jb rfl (jG (jm (jn rfl) (jG (jm (jp 3 rfl rfl rfl) (jG (jm (jn rfl) (jG (jm (jp 3 rfl rfl rfl) (jG (jL rfl rfl (jk rfl (jM (jE (jV (WX.inNormal (jA (jD (jX rfl rfl (ja rfl (jC (WX.conv (fun w h => h.sub [0, 0, 0] rfl) (WX.thenK (WK.round 0 (by omega) ⟨5, rfl, by omega, rfl, rfl, rfl, rfl, rfl, rfl, fun _ => q0 (by omega), fun _ => q1 (by omega), fun _ => q2 (by omega), fun _ => q3 (by omega), fun _ => hq⟩)))))))))))))))))))))))))))))
  ·rw [if_pos (fun e => hq e.2.2.2.2)]
   refine jS (jy rfl rfl (jM (jB (jF (jV (jA (jB (WC.block (jS (jm (jZ rfl rfl) (jm (Val.loadO 2 rfl rfl rfl) ?_)))))))))))
   refine WL.alloc rfl (fun _ => ?_)
   refine jW ?_
   refine WL.store 3 rfl rfl rfl ?_
   refine WL.nSet ?_
   refine jN (jm (jn rfl) (jm (jp 3 rfl rfl rfl) (jm (jn rfl) (jm (jp 3 rfl rfl rfl) ?_))))
   refine WL.ltI rfl rfl rfl (fun h => ?_) (fun h => ?_)
   refine jb rfl (jH (jH (jH (jH (jH (jk rfl (jM (jF (jS (jf rfl (jM (jR (WX.inRet (jU (jU (WX.inRet (jU ?_)))))))))))))))))
   rotate_left
   refine jb rfl (jG (jm (jn rfl) (jG (jm (jp 3 rfl rfl rfl) (jG (jm (jn rfl) (jG (jm (jp 3 rfl rfl rfl) (jG (jO rfl rfl (jk rfl (jM (jF (jS (jf rfl (jM (jR (WX.inRet (jU (jU (WX.inRet (jU ?_))))))))))))))))))))))
   rotate_left
   all_goals
    refine jP [] (jr1 rfl (jtI rfl)) ?_
   all_goals exact ⟨rfl, rfl, rfl⟩
 ·rw [if_neg (fun e => e ⟨q0 (by omega), q1 (by omega), q2 (by omega), q3 (by omega), q4 (by omega)⟩)]
  refine jS (jx rfl rfl (jM (jB (jE (WC.exit (WX.thenExit (WX.thenExit (WX.inHit (jK (jm (jn rfl) (jm (jt 1 rfl rfl rfl) (WL.callS rfl rfl (dash_ctr s.dash s.phase _ _ hd) rfl ?_))))))))))))
  rintro _ rfl
  refine jf rfl (jM (jR ?_))
  exact jP [] (jr1 rfl (jtI rfl)) ⟨rfl, rfl, rfl⟩
theorem need_le (k : Int) : need k ≤ 3 := by unfold need; split <;> (try split) <;> (try split) <;> omega
theorem chk1_ctr (p : Pt) (I : Mem) : Ctr Tryz.prog 59 [.agg p.cs.toArray] I [] (Still I (EqP (¬ p.inn))) := by
 refine Ctr.intro Tryz.func59 rfl rfl rfl fun E F => ?_
 refine jS (WL.boxA rfl rfl (fun _ => ?_))
 refine jW ?_
 refine jg rfl (jN (jm (jt 1 rfl rfl rfl) ?_))
 refine WL.callE rfl rfl (inn_ctr p _) rfl (fun h => ?_) (fun h => ?_)
 ·skip
  refine jl rfl (jg rfl (jM (jR ?_)))
  exact jP [] (jr1 rfl (jtB rfl)) ⟨rfl, rfl, EqP.f fun e => e h⟩
 ·skip
  refine jl rfl (jg rfl (jM (jR ?_)))
  exact jP [] (jr1 rfl (jtB rfl)) ⟨rfl, rfl, EqP.t h⟩
theorem idx_ctr (s : Sg) (g m : Nat) (hm : m ≤ 3) (I : Mem) : Ctr Tryz.prog 97 [.slice (some ⟨g, 1, none⟩) m 3, .func (.func 59) #[] #[]] I [box g 57 s.cs]
  (Keep I [box g 57 s.cs] fun v => ∃ i : Int, v = vi i ∧ (0 ≤ i ↔ ∃ k < m, ¬ (s.point k).inn)) := by
 refine Ctr.intro Tryz.func97 rfl rfl rfl fun E F => ?_
 refine jS (jf rfl (jM (jB (jS (jc rfl (jm (jo rfl) (ja rfl (jM (WC.block ?_)))))))))
 refine WC.loop (fun n ρ' I' L' => ∃ k : Nat, n = m - k ∧ k ≤ m ∧ I' = I ∧ ρ' 0 = .slice (some ⟨g, 1, none⟩) m 3 ∧ ρ' 1 = .func (.func 59) #[] #[] ∧ ρ' 7 = vi m ∧ ρ' 8 = vi k ∧ L' = [F, box g 57 s.cs] ∧ ∀ j < k, (s.point j).inn)
  m ⟨0, rfl, by omega, rfl, rfl, rfl, rfl, rfl, rfl, fun j h => by omega⟩ ?_
 rintro n ρ' I0 L' ⟨k, rfl, hk, rfl, r0, r1, r7, r8, rfl, hall⟩
 refine ju4 r8 r7 r1 r0 ?_
 by_cases hkm : k < m
 ·have hcase : k = 0 ∨ k = 1 ∨ k = 2 := by omega
  rcases hcase with rfl | rfl | rfl
  ·skip
   refine jS (jy rfl rfl (jM (jB (jF (jV (jA (jB (WC.block (jS (ja rfl (jf rfl (jN (jm (Val.moveF rfl) (jc rfl (ja rfl (jm (jZ rfl rfl) (jm (Val.loadO 1 rfl rfl rfl) ?_)))))))))))))))))
   refine WL.callE rfl rfl (chk1_ctr s.p0 _) rfl (fun h => ?_) (fun h => ?_)
   ·skip
    refine jM (jF (jS (ja rfl (jf rfl (jM (jR (WX.inRet (jU (jU (WX.inRet (jU ?_)))))))))))
    exact jP [0] (jr1 rfl (jtI rfl)) ⟨rfl, rfl, 0, rfl, fun _ => ⟨0, hkm, h⟩, fun _ => by decide⟩
   ·skip
    refine jM (jE (jV (WX.inNormal (jA (jD (jX rfl rfl (ja rfl (jC ?_))))))))
    have hall' : ∀ j < 0 + 1, (s.point j).inn := fun j hj => by
     rcases Nat.lt_or_ge j 0 with h9 | h9
     ·exact hall j h9
     ·obtain rfl : j = 0 := by omega
      exact Decidable.of_not_not h
    exact WX.thenK (WK.round (m - (0 + 1)) (by omega) ⟨0 + 1, rfl, by omega, rfl, rfl, rfl, rfl, rfl, rfl, hall'⟩)
  ·skip
   refine jS (jy rfl rfl (jM (jB (jF (jV (jA (jB (WC.block (jS (ja rfl (jf rfl (jN (jm (Val.moveF rfl) (jc rfl (ja rfl (jm (jZ rfl rfl) (jm (Val.loadO 1 rfl rfl rfl) ?_)))))))))))))))))
   refine WL.callE rfl rfl (chk1_ctr s.p1 _) rfl (fun h => ?_) (fun h => ?_)
   ·skip
    refine jM (jF (jS (ja rfl (jf rfl (jM (jR (WX.inRet (jU (jU (WX.inRet (jU ?_)))))))))))
    exact jP [0] (jr1 rfl (jtI rfl)) ⟨rfl, rfl, 1, rfl, fun _ => ⟨1, hkm, h⟩, fun _ => by decide⟩
   ·skip
    refine jM (jE (jV (WX.inNormal (jA (jD (jX rfl rfl (ja rfl (jC ?_))))))))
    have hall' : ∀ j < 1 + 1, (s.point j).inn := fun j hj => by
     rcases Nat.lt_or_ge j 1 with h9 | h9
     ·exact hall j h9
     ·obtain rfl : j = 1 := by omega
      exact Decidable.of_not_not h
    exact WX.thenK (WK.round (m - (1 + 1)) (by omega) ⟨1 + 1, rfl, by omega, rfl, rfl, rfl, rfl, rfl, rfl, hall'⟩)
  ·skip
   refine jS (jy rfl rfl (jM (jB (jF (jV (jA (jB (WC.block (jS (ja rfl (jf rfl (jN (jm (Val.moveF rfl) (jc rfl (ja rfl (jm (jZ rfl rfl) (jm (Val.loadO 1 rfl rfl rfl) ?_)))))))))))))))))
   refine WL.callE rfl rfl (chk1_ctr s.p2 _) rfl (fun h => ?_) (fun h => ?_)
   ·skip
    refine jM (jF (jS (ja rfl (jf rfl (jM (jR (WX.inRet (jU (jU (WX.inRet (jU ?_)))))))))))
    exact jP [0] (jr1 rfl (jtI rfl)) ⟨rfl, rfl, 2, rfl, fun _ => ⟨2, hkm, h⟩, fun _ => by decide⟩
   ·skip
    refine jM (jE (jV (WX.inNormal (jA (jD (jX rfl rfl (ja rfl (jC ?_))))))))
    have hall' : ∀ j < 2 + 1, (s.point j).inn := fun j hj => by
     rcases Nat.lt_or_ge j 2 with h9 | h9
     ·exact hall j h9
     ·obtain rfl : j = 2 := by omega
      exact Decidable.of_not_not h
    exact WX.thenK (WK.round (m - (2 + 1)) (by omega) ⟨2 + 1, rfl, by omega, rfl, rfl, rfl, rfl, rfl, rfl, hall'⟩)
 ·have : k = m := by omega
  subst this
  refine jS (jx rfl rfl (jM (jB (jE (WC.exit (WX.thenExit (WX.thenExit (WX.inHit (jK (jf rfl (jM (jR ?_))))))))))))
  exact jP [0] (jr1 rfl (jtI rfl)) ⟨rfl, rfl, -1, rfl, fun h => absurd h (by decide), fun ⟨j, h1, h2⟩ => absurd (hall j h1) h2⟩
theorem points_ctr (s : Sg) (g : Nat) (I : Mem) (hN : NeedAt I) : Ctr Tryz.prog 58 [ptr g] I [box g 57 s.cs] (Keep I [box g 57 s.cs] fun v => v = .slice (some ⟨g, 1, none⟩) (need s.kind) 3) := by
 have hn := need_le s.kind
 refine Ctr.intro Tryz.func58 rfl rfl rfl fun E F => ?_
 refine jS (jh rfl (jM (jB (j8 999 [1] rfl (jT 0 rfl (Val.moveP rfl) (jT 1 rfl (jr rfl) (jT 2 rfl (jn rfl) (jT 3 rfl (Val.moveP rfl) (jT 4 rfl (jr rfl) (jT 5 rfl (jn rfl) (jT 6 rfl (jp 0 rfl rfl rfl) (j5 7 rfl (WL.callS rfl rfl (need_ctr s.kind _ hN) rfl ?_)))))))))))))
 rintro _ rfl
 refine jC (j7 [1] rfl (jT 8 rfl (Val.sliceA (h := need s.kind) rfl (.none _) (.some (e := ((need s.kind : Nat) : Int)) rfl (Int.natCast_nonneg _)) (by omega) (by omega)) ?_))
 refine jT 9 rfl (Val.assignS rfl) (j6 (jA (jR ?_)))
 exact jP [0] (jr1 rfl (jtS rfl)) ⟨rfl, rfl, rfl⟩
theorem contains_ctr (s : Sg) (g m : Nat) (hm : m ≤ 3) (I : Mem) : Ctr Tryz.prog 57 [.slice (some ⟨g, 1, none⟩) m 3, .func (.func 59) #[] #[]] I [box g 57 s.cs]
  (Keep I [box g 57 s.cs] (EqP (∃ k < m, ¬ (s.point k).inn))) := by
 refine Ctr.intro Tryz.func57 rfl rfl rfl fun E F => ?_
 refine jS (jg rfl (jN (jc rfl (jm (Val.moveF rfl) (WL.callK [1] rfl rfl rfl (idx_ctr s g m hm _) rfl ?_)))))
 rintro _ ⟨i, rfl, hi⟩
 by_cases h0 : 0 ≤ i
 ·skip
  refine jm (Val.geq rfl rfl (decide_eq_true (by omega))) ?_
  refine jg rfl (jM (jR ?_))
  exact jP [0] (jr1 rfl (jtB rfl)) ⟨rfl, rfl, EqP.t (hi.1 h0)⟩
 ·skip
  refine jm (Val.geq rfl rfl (decide_eq_false (by omega))) ?_
  refine jg rfl (jM (jR ?_))
  exact jP [0] (jr1 rfl (jtB rfl)) ⟨rfl, rfl, EqP.f fun e => h0 (hi.2 e)⟩
theorem path_ctr (l : List Sg) (v : Value) (I : Mem) (hN : NeedAt I) (hv : LsAt Sg.rep I l v) : Ctr Tryz.prog 18 [v] I [] (Still I fun r => r = vi (pathCheck l)) := by
 have hlb := hv.le
 obtain ⟨a1, c1, rfl⟩ := hv.sl
 refine Ctr.intro Tryz.func18 rfl rfl rfl fun E F => ?_
 by_cases hl : 4096 < l.length
 ·skip
  refine jS (jf rfl (jM (jB (jS (jc rfl (jm (jo rfl) (jO rfl rfl (jM (jF (jS (jf rfl (jM (jR (jU ?_))))))))))))))
  exact jP [] (jr1 rfl (jtI rfl)) ⟨rfl, rfl, by rw [pathCheck, if_pos hl]⟩
 rw [pathCheck, if_neg hl]
 refine jS (jf rfl (jM (jB (jS (jc rfl (jm (jo rfl) (jL rfl rfl (jM (jE (jV (jK (jg rfl (jM (jB (jS (jc rfl (jm (jo rfl) (ja rfl (jM (WC.block ?_))))))))))))))))))))
 refine WC.loop (fun n ρ' I' L' => ∃ (k : Nat) (o : Bool), n = l.length - k ∧ k ≤ l.length ∧ I' = I ∧ ρ' 3 = .bool o ∧ ρ' 11 = .slice a1 l.length c1 ∧ ρ' 12 = vi l.length ∧ ρ' 13 = vi k ∧ L' = [F] ∧ pathGo false l = pathGo o (l.drop k))
  l.length ⟨0, false, rfl, by omega, rfl, rfl, rfl, rfl, rfl, rfl, rfl⟩ ?_
 rintro n ρ' I0 L' ⟨k, o, rfl, hk, rfl, r3, r11, r12, r13, rfl, hgo⟩
 refine ju4 r13 r12 r11 r3 ?_
 rw [hgo]
 by_cases hkn : k < l.length
 case neg =>
  have : k = l.length := by omega
  subst this
  rw [List.drop_length]
  refine jS (jx rfl rfl (jM (jB (jE (WC.exit (WX.thenExit (WX.thenExit (WX.inHit (jK (jf rfl (jM (jR ?_))))))))))))
  exact jP [] (jr1 rfl (jtI rfl)) ⟨rfl, rfl, rfl⟩
 obtain ⟨b, off, cap', cs, he, ⟨rfl, hi⟩, hA⟩ := hv.get k hkn
 cases he
 rw [List.drop_eq_getElem_cons hkn, pathGo]
 rw [List.drop_eq_getElem_cons hkn, pathGo] at hgo
 generalize l[k] = x at *
 have hn := need_le x.kind
 by_cases b1 : x.kind < 1
 ·rw [if_pos (by rw [Sg.check, if_pos (.inl b1)]; decide), Sg.check, if_pos (.inl b1)]
  refine jS (jy rfl rfl (jM (jB (jF (jV (jA (jB (WC.block (jS (jm (jZ rfl rfl) (jm (Val.loadI rfl (by assumption) rfl) ?_)))))))))))
  refine WL.alloc rfl (fun _ => ?_)
  refine jW ?_
  refine WL.stA 1 rfl rfl rfl rfl ?_
  refine jM (jB (jS (jm (jn rfl) (jm (jp 1 rfl rfl rfl) (jy rfl rfl (jb rfl (jH (jH (jH (jk rfl (jb rfl (jH (jH (jH (WL.gU rfl rfl rfl ?_)))))))))))))))
  refine WL.gU rfl rfl rfl ?_
  refine WL.gU rfl rfl rfl ?_
  refine jH (jk rfl (jM (jF (jS (jf rfl (jM (jR (jU (WX.inRet (jU (jU (WX.inRet (jU ?_)))))))))))))
  exact jP [] (jr1 rfl (jtI rfl)) ⟨rfl, rfl, rfl⟩
 by_cases b2 : 5 < x.kind
 ·rw [if_pos (by rw [Sg.check, if_pos (.inr (.inl b2))]; decide), Sg.check, if_pos (.inr (.inl b2))]
  refine jS (jy rfl rfl (jM (jB (jF (jV (jA (jB (WC.block (jS (jm (jZ rfl rfl) (jm (Val.loadI rfl (by assumption) rfl) ?_)))))))))))
  refine WL.alloc rfl (fun _ => ?_)
  refine jW ?_
  refine WL.stA 1 rfl rfl rfl rfl ?_
  refine jM (jB (jS (jm (jn rfl) (jm (jp 1 rfl rfl rfl) (jx rfl rfl (jb rfl (jG (jm (jn rfl) (jG (jm (jp 1 rfl rfl rfl) (jG (jO rfl rfl (jk rfl (jb rfl (jH (jH (jH (WL.gU rfl rfl rfl ?_))))))))))))))))))
  refine WL.gU rfl rfl rfl ?_
  refine WL.gU rfl rfl rfl ?_
  refine jH (jk rfl (jM (jF (jS (jf rfl (jM (jR (jU (WX.inRet (jU (jU (WX.inRet (jU ?_)))))))))))))
  exact jP [] (jr1 rfl (jtI rfl)) ⟨rfl, rfl, rfl⟩
 by_cases b3 : o = false ∧ x.kind ≠ 1
 ·rw [if_pos (by rw [Sg.check, if_pos (.inr (.inr b3))]; decide), Sg.check, if_pos (.inr (.inr b3))]
  obtain ⟨rfl, b3'⟩ := b3
  refine jS (jy rfl rfl (jM (jB (jF (jV (jA (jB (WC.block (jS (jm (jZ rfl rfl) (jm (Val.loadI rfl (by assumption) rfl) ?_)))))))))))
  refine WL.alloc rfl (fun _ => ?_)
  refine jW ?_
  refine WL.stA 1 rfl rfl rfl rfl ?_
  refine jM (jB (jS (jm (jn rfl) (jm (jp 1 rfl rfl rfl) (jx rfl rfl (jb rfl (jG (jm (jn rfl) (jG (jm (jp 1 rfl rfl rfl) (jG (jL rfl rfl (jk rfl (jb rfl (jG (jb rfl (jG (jl rfl (jG (jb rfl (jG (jm (jn rfl) (jG (jm (jp 1 rfl rfl rfl) (jG (jJ rfl rfl (jG (jk rfl (jk rfl (jM (jF (jS (jf rfl (jM (jR (jU (WX.inRet (jU (jU ?_)))))))))))))))))))))))))))))))))))))))
  refine WX.inRet (jU ?_)
  exact jP [] (jr1 rfl (jtI rfl)) ⟨rfl, rfl, rfl⟩
 have hc : x.check o = if (need x.kind ≤ 0 ∧ x.p0 ≠ Pt.z) ∨ (need x.kind ≤ 1 ∧ x.p1 ≠ Pt.z) ∨ (need x.kind ≤ 2 ∧ x.p2 ≠ Pt.z) then 33
   else if (0 < need x.kind ∧ ¬ x.p0.inn) ∨ (1 < need x.kind ∧ ¬ x.p1.inn) ∨ (2 < need x.kind ∧ ¬ x.p2.inn) then 30 else 0 := by
  rw [Sg.check, if_neg (fun e => e.elim b1 fun e => e.elim b2 b3)]
 have fin : ∀ e : Int, e ≠ 0 → x.check o = e → (if x.check o ≠ 0 then x.check o else pathGo (decide (x.kind ≠ 5)) (l.drop (k + 1))) = e := fun e h1 h2 => by rw [if_pos (by rw [h2]; exact h1), h2]
 cases o with
 | true =>
  refine jS (jy rfl rfl (jM (jB (jF (jV (jA (jB (WC.block (jS (jm (jZ rfl rfl) (jm (Val.loadI rfl (by assumption) rfl) ?_)))))))))))
  refine WL.alloc rfl (fun _ => ?_)
  refine jW ?_
  refine WL.stA 1 rfl rfl rfl rfl ?_
  refine jM (jB (jS (jm (jn rfl) (jm (jp 1 rfl rfl rfl) (jx rfl rfl (jb rfl (jG (jm (jn rfl) (jG (jm (jp 1 rfl rfl rfl) (jG (jL rfl rfl (jk rfl (jb rfl (jG (jb rfl (jG (jl rfl (jG (jb rfl (jH (jH (jH (jG (jk rfl (jk rfl (jM (jE (jV (jA (jB (jS (jm (jn rfl) (jm (jt 1 rfl rfl rfl) (ja rfl (jM (WC.block ?_)))))))))))))))))))))))))))))))))))))
  rename_i g5
  refine WC.loop (fun n ρ' I' L' => ∃ q : Nat, n = 3 - q ∧ q ≤ 3 ∧ I' = I0 ∧ ρ' 3 = .bool true ∧ ρ' 5 = ptr g5 ∧ ρ' 11 = .slice (some ⟨b, off, none⟩) l.length c1 ∧ ρ' 12 = vi l.length ∧ ρ' 13 = vi k ∧ ρ' 35 = .agg #[vi x.p0.x, vi x.p0.y, vi x.p1.x, vi x.p1.y, vi x.p2.x, vi x.p2.y] ∧ ρ' 36 = vi q ∧
    L' = [F, box g5 57 x.cs] ∧ (0 < q → need x.kind ≤ 0 → x.p0 = Pt.z) ∧ (1 < q → need x.kind ≤ 1 → x.p1 = Pt.z) ∧ (2 < q → need x.kind ≤ 2 → x.p2 = Pt.z))
   3 ⟨0, rfl, by omega, rfl, rfl, rfl, rfl, rfl, rfl, rfl, rfl, rfl, fun h => by omega, fun h => by omega, fun h => by omega⟩ ?_
  rintro n ρ' I1 L' ⟨q, rfl, hq3, rfl, r3, r5, r11, r12, r13, r35, r36, rfl, z0, z1, z2⟩
  refine ju7 r36 r35 r13 r12 r11 r5 r3 ?_
  have hcase : q = 0 ∨ q = 1 ∨ q = 2 ∨ q = 3 := by omega
  rcases hcase with rfl | rfl | rfl | rfl
  ·skip
   refine jS (jy rfl rfl (jM (jB (jF (jV (jA (jB (WC.block (jS (ja rfl (jm (Val.indexA (vs := x.p0.cs) rfl rfl (by decide) (by decide) rfl) ?_)))))))))))
   refine WL.alloc rfl (fun _ => ?_)
   refine jW ?_
   refine jf rfl (WL.stA 2 rfl rfl rfl rfl ?_)
   refine jN (ja rfl (jm (jn rfl) (jm (jp 1 rfl rfl rfl) (WL.callS rfl rfl (need_ctr x.kind _ hN) rfl ?_))))
   rintro _ rfl
   by_cases hn0 : need x.kind ≤ 0
   ·have hn' : (need x.kind : Int) ≤ 0 := by omega
    refine jm (Val.geq rfl rfl (decide_eq_true (by omega))) ?_
    refine jb rfl (jG (jm (jt 2 rfl rfl rfl) (jG (jm (Val.build0) ?_))))
    refine jG ?_
    refine WL.neS rfl rfl rfl rfl rfl (fun h => ?_) (fun h => ?_)
    refine jk rfl (jM (jF (jS (jf rfl (jM (jR (WX.inRet (jU (jU (WX.inRet (jU (WX.inRet (jU (jU (WX.inRet (jU ?_))))))))))))))))
    ·skip
     exact jP [] (jr1 rfl (jtI rfl)) ⟨rfl, rfl, by rw [fin 33 (by decide) (by rw [hc, if_pos (.inl ⟨hn0, fun e => h (by rw [e])⟩)])]⟩
    ·skip
     exact jk rfl (jM (jE (jV (WX.inNormal (jA (jD (jX rfl rfl (ja rfl (jC (WX.conv (fun w h => h.sub [0, 0] rfl) (WX.thenK (WK.round 2 (by omega) ⟨1, rfl, by omega, rfl, rfl, rfl, rfl, rfl, rfl, rfl, rfl, rfl, fun _ _ => Pt.inj h, fun h => by omega, fun h => by omega⟩))))))))))))
   ·have hn' : ¬ (need x.kind : Int) ≤ 0 := by omega
    refine jm (Val.geq rfl rfl (decide_eq_false (by omega))) ?_
    exact jb rfl (jH (jH (jH (jk rfl (jM (jE (jV (WX.inNormal (jA (jD (jX rfl rfl (ja rfl (jC (WX.conv (fun w h => h.sub [0, 0] rfl) (WX.thenK (WK.round 2 (by omega) ⟨1, rfl, by omega, rfl, rfl, rfl, rfl, rfl, rfl, rfl, rfl, rfl, fun _ h => absurd h hn0, fun h => by omega, fun h => by omega⟩))))))))))))))))
  ·skip
   refine jS (jy rfl rfl (jM (jB (jF (jV (jA (jB (WC.block (jS (ja rfl (jm (Val.indexA (vs := x.p1.cs) rfl rfl (by decide) (by decide) rfl) ?_)))))))))))
   refine WL.alloc rfl (fun _ => ?_)
   refine jW ?_
   refine jf rfl (WL.stA 2 rfl rfl rfl rfl ?_)
   refine jN (ja rfl (jm (jn rfl) (jm (jp 1 rfl rfl rfl) (WL.callS rfl rfl (need_ctr x.kind _ hN) rfl ?_))))
   rintro _ rfl
   by_cases hn0 : need x.kind ≤ 1
   ·have hn' : (need x.kind : Int) ≤ 1 := by omega
    refine jm (Val.geq rfl rfl (decide_eq_true (by omega))) ?_
    refine jb rfl (jG (jm (jt 2 rfl rfl rfl) (jG (jm (Val.build0) ?_))))
    refine jG ?_
    refine WL.neS rfl rfl rfl rfl rfl (fun h => ?_) (fun h => ?_)
    refine jk rfl (jM (jF (jS (jf rfl (jM (jR (WX.inRet (jU (jU (WX.inRet (jU (WX.inRet (jU (jU (WX.inRet (jU ?_))))))))))))))))
    ·skip
     exact jP [] (jr1 rfl (jtI rfl)) ⟨rfl, rfl, by rw [fin 33 (by decide) (by rw [hc, if_pos (.inr (.inl ⟨hn0, fun e => h (by rw [e])⟩))])]⟩
    ·skip
     exact jk rfl (jM (jE (jV (WX.inNormal (jA (jD (jX rfl rfl (ja rfl (jC (WX.conv (fun w h => h.sub [0, 0] rfl) (WX.thenK (WK.round 1 (by omega) ⟨2, rfl, by omega, rfl, rfl, rfl, rfl, rfl, rfl, rfl, rfl, rfl, fun _ => z0 (by omega), fun _ _ => Pt.inj h, fun h => by omega⟩))))))))))))
   ·have hn' : ¬ (need x.kind : Int) ≤ 1 := by omega
    refine jm (Val.geq rfl rfl (decide_eq_false (by omega))) ?_
    exact jb rfl (jH (jH (jH (jk rfl (jM (jE (jV (WX.inNormal (jA (jD (jX rfl rfl (ja rfl (jC (WX.conv (fun w h => h.sub [0, 0] rfl) (WX.thenK (WK.round 1 (by omega) ⟨2, rfl, by omega, rfl, rfl, rfl, rfl, rfl, rfl, rfl, rfl, rfl, fun _ => z0 (by omega), fun _ h => absurd h hn0, fun h => by omega⟩))))))))))))))))
  ·skip
   refine jS (jy rfl rfl (jM (jB (jF (jV (jA (jB (WC.block (jS (ja rfl (jm (Val.indexA (vs := x.p2.cs) rfl rfl (by decide) (by decide) rfl) ?_)))))))))))
   refine WL.alloc rfl (fun _ => ?_)
   refine jW ?_
   refine jf rfl (WL.stA 2 rfl rfl rfl rfl ?_)
   refine jN (ja rfl (jm (jn rfl) (jm (jp 1 rfl rfl rfl) (WL.callS rfl rfl (need_ctr x.kind _ hN) rfl ?_))))
   rintro _ rfl
   by_cases hn0 : need x.kind ≤ 2
   ·have hn' : (need x.kind : Int) ≤ 2 := by omega
    refine jm (Val.geq rfl rfl (decide_eq_true (by omega))) ?_
    refine jb rfl (jG (jm (jt 2 rfl rfl rfl) (jG (jm (Val.build0) ?_))))
    refine jG ?_
    refine WL.neS rfl rfl rfl rfl rfl (fun h => ?_) (fun h => ?_)
    refine jk rfl (jM (jF (jS (jf rfl (jM (jR (WX.inRet (jU (jU (WX.inRet (jU (WX.inRet (jU (jU (WX.inRet (jU ?_))))))))))))))))
    ·skip
     exact jP [] (jr1 rfl (jtI rfl)) ⟨rfl, rfl, by rw [fin 33 (by decide) (by rw [hc, if_pos (.inr (.inr ⟨hn0, fun e => h (by rw [e])⟩))])]⟩
    ·skip
     exact jk rfl (jM (jE (jV (WX.inNormal (jA (jD (jX rfl rfl (ja rfl (jC (WX.conv (fun w h => h.sub [0, 0] rfl) (WX.thenK (WK.round 0 (by omega) ⟨3, rfl, by omega, rfl, rfl, rfl, rfl, rfl, rfl, rfl, rfl, rfl, fun _ => z0 (by omega), fun _ => z1 (by omega), fun _ _ => Pt.inj h⟩))))))))))))
   ·have hn' : ¬ (need x.kind : Int) ≤ 2 := by omega
    refine jm (Val.geq rfl rfl (decide_eq_false (by omega))) ?_
    exact jb rfl (jH (jH (jH (jk rfl (jM (jE (jV (WX.inNormal (jA (jD (jX rfl rfl (ja rfl (jC (WX.conv (fun w h => h.sub [0, 0] rfl) (WX.thenK (WK.round 0 (by omega) ⟨3, rfl, by omega, rfl, rfl, rfl, rfl, rfl, rfl, rfl, rfl, rfl, fun _ => z0 (by omega), fun _ => z1 (by omega), fun _ h => absurd h hn0⟩))))))))))))))))
  ·have z0' := z0 (by omega)
   have z1' := z1 (by omega)
   have z2' := z2 (by omega)
   rw [if_neg (fun e => e.elim (fun e => e.2 (z0' e.1)) fun e => e.elim (fun e => e.2 (z1' e.1)) fun e => e.2 (z2' e.1))] at hc
   refine jS (jx rfl rfl (jM (jB (jE (WC.exit (WX.thenExit (WX.thenExit (WX.inHit (jA (jB (jS (WL.callK [1] rfl rfl rfl (points_ctr x g5 _ hN) rfl ?_))))))))))))
   rintro _ rfl
   skip
   refine WL.callK [1] rfl rfl rfl (contains_ctr x g5 (need x.kind) hn _) rfl ?_
   rintro _ ⟨bb, rfl, hbb⟩
   cases bb with
   | true =>
    obtain ⟨j, hj, hnj⟩ := hbb.1 rfl
    have h2 : (0 < need x.kind ∧ ¬ x.p0.inn) ∨ (1 < need x.kind ∧ ¬ x.p1.inn) ∨ (2 < need x.kind ∧ ¬ x.p2.inn) := by
     have hj3 : j = 0 ∨ j = 1 ∨ j = 2 := by omega
     rcases hj3 with rfl | rfl | rfl
     ·exact .inl ⟨hj, hnj⟩
     ·exact .inr (.inl ⟨hj, hnj⟩)
     ·exact .inr (.inr ⟨hj, hnj⟩)
    refine jM (jF (jS (jf rfl (jM (jR (jU (WX.inRet (jU (jU (WX.inRet (jU ?_)))))))))))
    exact jP [] (jr1 rfl (jtI rfl)) ⟨rfl, rfl, by rw [fin 30 (by decide) (by rw [hc, if_pos h2])]⟩
   | false =>
    have h2 : ¬ ((0 < need x.kind ∧ ¬ x.p0.inn) ∨ (1 < need x.kind ∧ ¬ x.p1.inn) ∨ (2 < need x.kind ∧ ¬ x.p2.inn)) := fun e => by
     have hno : ¬ ∃ k < need x.kind, ¬ (x.point k).inn := fun e => by
      have := hbb.2 e
      cases this
     rcases e with e | e | e
     ·exact hno ⟨0, e.1, e.2⟩
     ·exact hno ⟨1, e.1, e.2⟩
     ·exact hno ⟨2, e.1, e.2⟩
    rw [if_neg h2] at hc
    rw [if_neg (fun e => e hc)] at hgo
    rw [if_neg (fun e => e hc)]
    by_cases h5 : x.kind = 5
    ·rw [decide_eq_false (fun e => e h5)] at hgo
     refine jM (jE (jV (jA (jD (jm (jn rfl) (jm (jp 1 rfl rfl rfl) (jz rfl rfl (jg rfl (jC (WX.inNormal (jA (jD (jX rfl rfl (ja rfl (jC (WX.conv (fun w h => h.sub [0] rfl) ?_))))))))))))))))
     rw [decide_eq_false (fun e => e h5), ← hgo]
     exact WX.thenK (WK.round (l.length - (k + 1)) (by omega) ⟨k + 1, false, rfl, by omega, rfl, rfl, rfl, rfl, rfl, rfl, hgo⟩)
    ·rw [decide_eq_true h5] at hgo
     refine jM (jE (jV (jA (jD (jm (jn rfl) (jm (jp 1 rfl rfl rfl) (jJ rfl rfl (jg rfl (jC (WX.inNormal (jA (jD (jX rfl rfl (ja rfl (jC (WX.conv (fun w h => h.sub [0] rfl) ?_))))))))))))))))
     rw [decide_eq_true h5, ← hgo]
     exact WX.thenK (WK.round (l.length - (k + 1)) (by omega) ⟨k + 1, true, rfl, by omega, rfl, rfl, rfl, rfl, rfl, rfl, hgo⟩)
 | false =>
  have hk1 : x.kind = 1 := Decidable.byContradiction fun e => b3 ⟨rfl, e⟩
  refine jS (jy rfl rfl (jM (jB (jF (jV (jA (jB (WC.block (jS (jm (jZ rfl rfl) (jm (Val.loadI rfl (by assumption) rfl) ?_)))))))))))
  refine WL.alloc rfl (fun _ => ?_)
  refine jW ?_
  refine WL.stA 1 rfl rfl rfl rfl ?_
  refine jM (jB (jS (jm (jn rfl) (jm (jp 1 rfl rfl rfl) (jx rfl rfl (jb rfl (jG (jm (jn rfl) (jG (jm (jp 1 rfl rfl rfl) (jG (jL rfl rfl (jk rfl (jb rfl (jG (jb rfl (jG (jl rfl (jG (jb rfl (jG (jm (jn rfl) (jG (jm (jp 1 rfl rfl rfl) (jG (jz rfl rfl (jG (jk rfl (jk rfl (jM (jE (jV (jA (jB (jS (jm (jn rfl) (jm (jt 1 rfl rfl rfl) (ja rfl (jM ?_)))))))))))))))))))))))))))))))))))))))
  refine WC.block ?_
  rename_i g5
  refine WC.loop (fun n ρ' I' L' => ∃ q : Nat, n = 3 - q ∧ q ≤ 3 ∧ I' = I0 ∧ ρ' 3 = .bool false ∧ ρ' 5 = ptr g5 ∧ ρ' 11 = .slice (some ⟨b, off, none⟩) l.length c1 ∧ ρ' 12 = vi l.length ∧ ρ' 13 = vi k ∧ ρ' 35 = .agg #[vi x.p0.x, vi x.p0.y, vi x.p1.x, vi x.p1.y, vi x.p2.x, vi x.p2.y] ∧ ρ' 36 = vi q ∧
    L' = [F, box g5 57 x.cs] ∧ (0 < q → need x.kind ≤ 0 → x.p0 = Pt.z) ∧ (1 < q → need x.kind ≤ 1 → x.p1 = Pt.z) ∧ (2 < q → need x.kind ≤ 2 → x.p2 = Pt.z))
   3 ⟨0, rfl, by omega, rfl, rfl, rfl, rfl, rfl, rfl, rfl, rfl, rfl, fun h => by omega, fun h => by omega, fun h => by omega⟩ ?_
  rintro n ρ' I1 L' ⟨q, rfl, hq3, rfl, r3, r5, r11, r12, r13, r35, r36, rfl, z0, z1, z2⟩
  refine ju7 r36 r35 r13 r12 r11 r5 r3 ?_
  have hcase : q = 0 ∨ q = 1 ∨ q = 2 ∨ q = 3 := by omega
  rcases hcase with rfl | rfl | rfl | rfl
  ·skip
   refine jS (jy rfl rfl (jM (jB (jF (jV (jA (jB (WC.block (jS (ja rfl (jm (Val.indexA (vs := x.p0.cs) rfl rfl (by decide) (by decide) rfl) ?_)))))))))))
   refine WL.alloc rfl (fun _ => ?_)
   refine jW ?_
   refine jf rfl (WL.stA 2 rfl rfl rfl rfl ?_)
   refine jN (ja rfl (jm (jn rfl) (jm (jp 1 rfl rfl rfl) (WL.callS rfl rfl (need_ctr x.kind _ hN) rfl ?_))))
   rintro _ rfl
   by_cases hn0 : need x.kind ≤ 0
   ·have hn' : (need x.kind : Int) ≤ 0 := by omega
    refine jm (Val.geq rfl rfl (decide_eq_true (by omega))) ?_
    refine jb rfl (jG (jm (jt 2 rfl rfl rfl) (jG (jm (Val.build0) ?_))))
    refine jG ?_
    refine WL.neS rfl rfl rfl rfl rfl (fun h => ?_) (fun h => ?_)
    refine jk rfl (jM (jF (jS (jf rfl (jM (jR (WX.inRet (jU (jU (WX.inRet (jU (WX.inRet (jU (jU (WX.inRet (jU ?_))))))))))))))))
    ·skip
     exact jP [] (jr1 rfl (jtI rfl)) ⟨rfl, rfl, by rw [fin 33 (by decide) (by rw [hc, if_pos (.inl ⟨hn0, fun e => h (by rw [e])⟩)])]⟩
    ·skip
     exact jk rfl (jM (jE (jV (WX.inNormal (jA (jD (jX rfl rfl (ja rfl (jC (WX.conv (fun w h => h.sub [0, 0] rfl) (WX.thenK (WK.round 2 (by omega) ⟨1, rfl, by omega, rfl, rfl, rfl, rfl, rfl, rfl, rfl, rfl, rfl, fun _ _ => Pt.inj h, fun h => by omega, fun h => by omega⟩))))))))))))
   ·have hn' : ¬ (need x.kind : Int) ≤ 0 := by omega
    refine jm (Val.geq rfl rfl (decide_eq_false (by omega))) ?_
    exact jb rfl (jH (jH (jH (jk rfl (jM (jE (jV (WX.inNormal (jA (jD (jX rfl rfl (ja rfl (jC (WX.conv (fun w h => h.sub [0, 0] rfl) (WX.thenK (WK.round 2 (by omega) ⟨1, rfl, by omega, rfl, rfl, rfl, rfl, rfl, rfl, rfl, rfl, rfl, fun _ h => absurd h hn0, fun h => by omega, fun h => by omega⟩))))))))))))))))
  ·skip
   refine jS (jy rfl rfl (jM (jB (jF (jV (jA (jB (WC.block (jS (ja rfl (jm (Val.indexA (vs := x.p1.cs) rfl rfl (by decide) (by decide) rfl) ?_)))))))))))
   refine WL.alloc rfl (fun _ => ?_)
   refine jW ?_
   refine jf rfl (WL.stA 2 rfl rfl rfl rfl ?_)
   refine jN (ja rfl (jm (jn rfl) (jm (jp 1 rfl rfl rfl) (WL.callS rfl rfl (need_ctr x.kind _ hN) rfl ?_))))
   rintro _ rfl
   by_cases hn0 : need x.kind ≤ 1
   ·have hn' : (need x.kind : Int) ≤ 1 := by omega
    refine jm (Val.geq rfl rfl (decide_eq_true (by omega))) ?_
    refine jb rfl (jG (jm (jt 2 rfl rfl rfl) (jG (jm (Val.build0) ?_))))
    refine jG ?_
    refine WL.neS rfl rfl rfl rfl rfl (fun h => ?_) (fun h => ?_)
    refine jk rfl (jM (jF (jS (jf rfl (jM (jR (WX.inRet (jU (jU (WX.inRet (jU (WX.inRet (jU (jU (WX.inRet (jU ?_))))))))))))))))
    ·skip
     exact jP [] (jr1 rfl (jtI rfl)) ⟨rfl, rfl, by rw [fin 33 (by decide) (by rw [hc, if_pos (.inr (.inl ⟨hn0, fun e => h (by rw [e])⟩))])]⟩
    ·skip
     exact jk rfl (jM (jE (jV (WX.inNormal (jA (jD (jX rfl rfl (ja rfl (jC (WX.conv (fun w h => h.sub [0, 0] rfl) (WX.thenK (WK.round 1 (by omega) ⟨2, rfl, by omega, rfl, rfl, rfl, rfl, rfl, rfl, rfl, rfl, rfl, fun _ => z0 (by omega), fun _ _ => Pt.inj h, fun h => by omega⟩))))))))))))
   ·have hn' : ¬ (need x.kind : Int) ≤ 1 := by omega
    refine jm (Val.geq rfl rfl (decide_eq_false (by omega))) ?_
    exact jb rfl (jH (jH (jH (jk rfl (jM (jE (jV (WX.inNormal (jA (jD (jX rfl rfl (ja rfl (jC (WX.conv (fun w h => h.sub [0, 0] rfl) (WX.thenK (WK.round 1 (by omega) ⟨2, rfl, by omega, rfl, rfl, rfl, rfl, rfl, rfl, rfl, rfl, rfl, fun _ => z0 (by omega), fun _ h => absurd h hn0, fun h => by omega⟩))))))))))))))))
  ·skip
   refine jS (jy rfl rfl (jM (jB (jF (jV (jA (jB (WC.block (jS (ja rfl (jm (Val.indexA (vs := x.p2.cs) rfl rfl (by decide) (by decide) rfl) ?_)))))))))))
   refine WL.alloc rfl (fun _ => ?_)
   refine jW ?_
   refine jf rfl (WL.stA 2 rfl rfl rfl rfl ?_)
   refine jN (ja rfl (jm (jn rfl) (jm (jp 1 rfl rfl rfl) (WL.callS rfl rfl (need_ctr x.kind _ hN) rfl ?_))))
   rintro _ rfl
   by_cases hn0 : need x.kind ≤ 2
   ·have hn' : (need x.kind : Int) ≤ 2 := by omega
    refine jm (Val.geq rfl rfl (decide_eq_true (by omega))) ?_
    refine jb rfl (jG (jm (jt 2 rfl rfl rfl) (jG (jm (Val.build0) ?_))))
    refine jG ?_
    refine WL.neS rfl rfl rfl rfl rfl (fun h => ?_) (fun h => ?_)
    refine jk rfl (jM (jF (jS (jf rfl (jM (jR (WX.inRet (jU (jU (WX.inRet (jU (WX.inRet (jU (jU (WX.inRet (jU ?_))))))))))))))))
    ·skip
     exact jP [] (jr1 rfl (jtI rfl)) ⟨rfl, rfl, by rw [fin 33 (by decide) (by rw [hc, if_pos (.inr (.inr ⟨hn0, fun e => h (by rw [e])⟩))])]⟩
    ·skip
     exact jk rfl (jM (jE (jV (WX.inNormal (jA (jD (jX rfl rfl (ja rfl (jC (WX.conv (fun w h => h.sub [0, 0] rfl) (WX.thenK (WK.round 0 (by omega) ⟨3, rfl, by omega, rfl, rfl, rfl, rfl, rfl, rfl, rfl, rfl, rfl, fun _ => z0 (by omega), fun _ => z1 (by omega), fun _ _ => Pt.inj h⟩))))))))))))
   ·have hn' : ¬ (need x.kind : Int) ≤ 2 := by omega
    refine jm (Val.geq rfl rfl (decide_eq_false (by omega))) ?_
    exact jb rfl (jH (jH (jH (jk rfl (jM (jE (jV (WX.inNormal (jA (jD (jX rfl rfl (ja rfl (jC (WX.conv (fun w h => h.sub [0, 0] rfl) (WX.thenK (WK.round 0 (by omega) ⟨3, rfl, by omega, rfl, rfl, rfl, rfl, rfl, rfl, rfl, rfl, rfl, fun _ => z0 (by omega), fun _ => z1 (by omega), fun _ h => absurd h hn0⟩))))))))))))))))
  ·have z0' := z0 (by omega)
   have z1' := z1 (by omega)
   have z2' := z2 (by omega)
   rw [if_neg (fun e => e.elim (fun e => e.2 (z0' e.1)) fun e => e.elim (fun e => e.2 (z1' e.1)) fun e => e.2 (z2' e.1))] at hc
   refine jS (jx rfl rfl (jM (jB (jE (WC.exit (WX.thenExit (WX.thenExit (WX.inHit (jA (jB (jS (WL.callK [1] rfl rfl rfl (points_ctr x g5 _ hN) rfl ?_))))))))))))
   rintro _ rfl
   skip
   refine WL.callK [1] rfl rfl rfl (contains_ctr x g5 (need x.kind) hn _) rfl ?_
   rintro _ ⟨bb, rfl, hbb⟩
   cases bb with
   | true =>
    obtain ⟨j, hj, hnj⟩ := hbb.1 rfl
    have h2 : (0 < need x.kind ∧ ¬ x.p0.inn) ∨ (1 < need x.kind ∧ ¬ x.p1.inn) ∨ (2 < need x.kind ∧ ¬ x.p2.inn) := by
     have hj3 : j = 0 ∨ j = 1 ∨ j = 2 := by omega
     rcases hj3 with rfl | rfl | rfl
     ·exact .inl ⟨hj, hnj⟩
     ·exact .inr (.inl ⟨hj, hnj⟩)
     ·exact .inr (.inr ⟨hj, hnj⟩)
    refine jM (jF (jS (jf rfl (jM (jR (jU (WX.inRet (jU (jU (WX.inRet (jU ?_)))))))))))
    exact jP [] (jr1 rfl (jtI rfl)) ⟨rfl, rfl, by rw [fin 30 (by decide) (by rw [hc, if_pos h2])]⟩
   | false =>
    have h2 : ¬ ((0 < need x.kind ∧ ¬ x.p0.inn) ∨ (1 < need x.kind ∧ ¬ x.p1.inn) ∨ (2 < need x.kind ∧ ¬ x.p2.inn)) := fun e => by
     have hno : ¬ ∃ k < need x.kind, ¬ (x.point k).inn := fun e => by
      have := hbb.2 e
      cases this
     rcases e with e | e | e
     ·exact hno ⟨0, e.1, e.2⟩
     ·exact hno ⟨1, e.1, e.2⟩
     ·exact hno ⟨2, e.1, e.2⟩
    rw [if_neg h2] at hc
    rw [if_neg (fun e => e hc)] at hgo
    rw [if_neg (fun e => e hc)]
    by_cases h5 : x.kind = 5
    ·omega
    ·rw [decide_eq_true h5] at hgo
     refine jM (jE (jV (jA (jD (jm (jn rfl) (jm (jp 1 rfl rfl rfl) (jJ rfl rfl (jg rfl (jC (WX.inNormal (jA (jD (jX rfl rfl (ja rfl (jC (WX.conv (fun w h => h.sub [0] rfl) ?_))))))))))))))))
     rw [decide_eq_true h5, ← hgo]
     exact WX.thenK (WK.round (l.length - (k + 1)) (by omega) ⟨k + 1, true, rfl, by omega, rfl, rfl, rfl, rfl, rfl, rfl, hgo⟩)
theorem atr_ctr (a : Atr) (b : Bool) (t u d q : Value) (I : Mem) (hN : NeedAt I) (ha : a.at_ I t u d q) : Ctr Tryz.prog 19 [.agg (a.cs t u d q).toArray, .bool b] I [] (Still I fun r => r = vi (a.check b)) := by
 have hs := ha.sty
 have hp := ha.path
 have hlb := hp.le
 obtain ⟨a1, c1, a2, c2, a3, c3, a4, c4, rfl, rfl, rfl, rfl⟩ := ha.sl
 refine Ctr.intro Tryz.func19 rfl rfl rfl fun E F => ?_
 refine jS (WL.boxA rfl rfl (fun _ => ?_))
 refine jW ?_
 refine jf rfl (jM (jB (jS (jm (jn rfl) (jm (jt 1 rfl rfl rfl) ?_)))))
 refine WL.callE rfl rfl (mtxRight_ctr a.mtx _) rfl (fun h1 => ?_) (fun h1 => ?_)
 case refine_2 =>
  refine jl rfl (jM (jF (jS (jf rfl (jM (jR (jU ?_)))))))
  exact jP [] (jr1 rfl (jtI rfl)) ⟨rfl, rfl, by rw [Atr.check, if_pos h1]⟩
 refine jl rfl (jM (jE (jV (jA (jB (jS (jm (jn rfl) (jm (jt 1 rfl rfl rfl) (WL.callS rfl rfl (sty_ctr a.sty _ _ _ _ hs) rfl ?_)))))))))
 rintro _ rfl
 by_cases h2 : a.sty.check = 0
 case neg =>
  refine jf rfl (jN (ja rfl (jJ rfl rfl (jM (jF (jS (ja rfl (jf rfl (jM (jR (jU ?_)))))))))))
  exact jP [] (jr1 rfl (jtI rfl)) ⟨rfl, rfl, by rw [Atr.check, if_neg (fun e => e h1), if_pos h2]⟩
 refine jf rfl (jN (ja rfl (jz rfl rfl (jM (jE (jV (jA (jB (jS (jm (jn rfl) (jm (jp 1 rfl rfl rfl) (WL.callS rfl rfl (path_ctr a.path _ _ hN hp) rfl ?_))))))))))))
 rintro _ rfl
 by_cases h3 : pathCheck a.path = 0
 case neg =>
  refine jf rfl (jN (ja rfl (jJ rfl rfl (jM (jF (jS (ja rfl (jf rfl (jM (jR (jU ?_)))))))))))
  exact jP [] (jr1 rfl (jtI rfl)) ⟨rfl, rfl, by rw [Atr.check, if_neg (fun e => e h1), if_neg (fun e => e h2), if_pos h3]⟩
 have hc : a.check b = if b = true ∧ 0 < a.path.length then 33 else 0 := by rw [Atr.check, if_neg (fun e => e h1), if_neg (fun e => e h2), if_neg (fun e => e h3)]
 rw [hc]
 by_cases h4 : 0 < a.path.length
 ·cases b with
  | true =>
   refine jf rfl (jN (ja rfl (jz rfl rfl (jM (jE (jV (jA (jB (jS (jb rfl (jb rfl (jG (jm (jn rfl) (jG (jm (jp 1 rfl rfl rfl) (jG (jm (jo rfl) (jG (jO rfl rfl (jk rfl (jM (jF (jS (jf rfl (jM (jR (jU ?_)))))))))))))))))))))))))))
   exact jP [] (jr1 rfl (jtI rfl)) ⟨rfl, rfl, by rw [if_pos ⟨rfl, h4⟩]⟩
  | false =>
   refine jf rfl (jN (ja rfl (jz rfl rfl (jM (jE (jV (jA (jB (jS (jb rfl (jb rfl (jH (jH (jH (jH (jk rfl (jM (jE (jV (jK (jf rfl (jM (jR ?_)))))))))))))))))))))))
   exact jP [] (jr1 rfl (jtI rfl)) ⟨rfl, rfl, by rw [if_neg (fun e => by cases e.1)]⟩
 ·cases b with
  | true =>
   refine jf rfl (jN (ja rfl (jz rfl rfl (jM (jE (jV (jA (jB (jS (jb rfl (jb rfl (jG (jm (jn rfl) (jG (jm (jp 1 rfl rfl rfl) (jG (jm (jo rfl) (jG (jL rfl rfl (jk rfl (jM (jE (jV (jK (jf rfl (jM (jR ?_)))))))))))))))))))))))))))
   exact jP [] (jr1 rfl (jtI rfl)) ⟨rfl, rfl, by rw [if_neg (fun e => h4 e.2)]⟩
  | false =>
   refine jf rfl (jN (ja rfl (jz rfl rfl (jM (jE (jV (jA (jB (jS (jb rfl (jb rfl (jH (jH (jH (jH (jk rfl (jM (jE (jV (jK (jf rfl (jM (jR ?_)))))))))))))))))))))))
   exact jP [] (jr1 rfl (jtI rfl)) ⟨rfl, rfl, by rw [if_neg (fun e => h4 e.2)]⟩
def NewL {α : Type} (R : Rep α) (e sz : Nat) (l : List α) (I : Mem) : Value → Mem → List HP → Prop := fun r I' L' => I' = I ∧ ∃ a c p, r = .slice a l.length c ∧ L' = [p] ∧ OwnL R e sz I l r p
theorem cloneSg (l : List Sg) (v : Value) (I : Mem) (hv : LsAt Sg.rep I l v) (hl : l.length ≤ 1000000000) : Ctr Tryz.prog 145 [v] I [] (NewL Sg.rep 57 7 l I) := by
 have hv0 := hv
 obtain ⟨a1, c1, rfl⟩ := hv0.sl
 refine Ctr.intro Tryz.func145 rfl rfl rfl fun E F => ?_
 cases a1 with
 | none =>
  have h0 : l = [] := by
   obtain ⟨css, ⟨a, cap, he, hc, h | ⟨b, off, h, _⟩⟩, h2⟩ := hv
   ·exact List.eq_nil_of_length_eq_zero h.1
   ·cases he; cases h
  subst h0
  refine jS (jh rfl (jM (jB (jS (jc rfl (jm (Val.eqlNil rfl) ?_))))))
  refine WL.slNil 57 7 ?_
  refine jW ?_
  refine jM (jF (jS (jh rfl (jM (jR (jU ?_))))))
  exact jP [0] (jr1 rfl (jtS rfl)) ⟨rfl, _, _, _, rfl, rfl, OwnL.nil _ _ _ _⟩
 | some a =>
  refine jS (jh rfl (jM (jB (jS (jc rfl (jm (Val.eqlNil rfl) ?_))))))
  refine jM (jE (jV (jK (WL.buildSlice (by with_unfolding_all exact rfl) rfl (by with_unfolding_all exact rfl) rfl (fun _ => ?_)))))
  refine jW ?_
  refine jc rfl (WL.boxSl (e := 57) (sz := 7) (n := 0) (xs := []) 1 rfl rfl (by decide) ?_)
  refine WL.appL (R := Sg.rep) (l := []) (m := l) 1 rfl rfl ⟨[], rfl, trivial⟩ rfl hv (fun x cs h => by rw [h.1]; rfl) (by rfl) (by decide) (by simp only [List.length_nil]; omega) (by unfold maxLen; simp only [List.length_nil]; omega) rfl fun aa cc p' hp' => ?_
  refine WL.nSet ?_
  refine jh rfl (jM (jR ?_))
  rw [List.nil_append] at hp' ⊢
  exact jP [0] (jr1 rfl (jtS rfl)) ⟨rfl, _, _, _, rfl, rfl, hp'⟩
theorem cloneStp (l : List Stp) (v : Value) (I : Mem) (hv : LsAt Stp.rep I l v) (hl : l.length ≤ 1000000000) : Ctr Tryz.prog 146 [v] I [] (NewL Stp.rep 203 5 l I) := by
 have hv0 := hv
 obtain ⟨a1, c1, rfl⟩ := hv0.sl
 refine Ctr.intro Tryz.func146 rfl rfl rfl fun E F => ?_
 cases a1 with
 | none =>
  have h0 : l = [] := by
   obtain ⟨css, ⟨a, cap, he, hc, h | ⟨b, off, h, _⟩⟩, h2⟩ := hv
   ·exact List.eq_nil_of_length_eq_zero h.1
   ·cases he; cases h
  subst h0
  refine jS (jh rfl (jM (jB (jS (jc rfl (jm (Val.eqlNil rfl) ?_))))))
  refine WL.slNil 203 5 ?_
  refine jW ?_
  refine jM (jF (jS (jh rfl (jM (jR (jU ?_))))))
  exact jP [0] (jr1 rfl (jtS rfl)) ⟨rfl, _, _, _, rfl, rfl, OwnL.nil _ _ _ _⟩
 | some a =>
  refine jS (jh rfl (jM (jB (jS (jc rfl (jm (Val.eqlNil rfl) ?_))))))
  refine jM (jE (jV (jK (WL.buildSlice (by with_unfolding_all exact rfl) rfl (by with_unfolding_all exact rfl) rfl (fun _ => ?_)))))
  refine jW ?_
  refine jc rfl (WL.boxSl (e := 203) (sz := 5) (n := 0) (xs := []) 1 rfl rfl (by decide) ?_)
  refine WL.appL (R := Stp.rep) (l := []) (m := l) 1 rfl rfl ⟨[], rfl, trivial⟩ rfl hv (fun x cs h => by rw [h.1]; rfl) (by rfl) (by decide) (by simp only [List.length_nil]; omega) (by unfold maxLen; simp only [List.length_nil]; omega) rfl fun aa cc p' hp' => ?_
  refine WL.nSet ?_
  refine jh rfl (jM (jR ?_))
  rw [List.nil_append] at hp' ⊢
  exact jP [0] (jr1 rfl (jtS rfl)) ⟨rfl, _, _, _, rfl, rfl, hp'⟩
theorem cloneI (l : List Int) (v : Value) (I : Mem) (hv : LsAt Ls.Int.rep I l v) (hl : l.length ≤ 1000000000) : Ctr Tryz.prog 119 [v] I [] (NewL Ls.Int.rep 3 1 l I) := by
 have hv0 := hv
 obtain ⟨a1, c1, rfl⟩ := hv0.sl
 refine Ctr.intro Tryz.func119 rfl rfl rfl fun E F => ?_
 cases a1 with
 | none =>
  have h0 : l = [] := by
   obtain ⟨css, ⟨a, cap, he, hc, h | ⟨b, off, h, _⟩⟩, h2⟩ := hv
   ·exact List.eq_nil_of_length_eq_zero h.1
   ·cases he; cases h
  subst h0
  refine jS (jh rfl (jM (jB (jS (jc rfl (jm (Val.eqlNil rfl) ?_))))))
  refine WL.slNil 3 1 ?_
  refine jW ?_
  refine jM (jF (jS (jh rfl (jM (jR (jU ?_))))))
  exact jP [0] (jr1 rfl (jtS rfl)) ⟨rfl, _, _, _, rfl, rfl, OwnL.nil _ _ _ _⟩
 | some a =>
  refine jS (jh rfl (jM (jB (jS (jc rfl (jm (Val.eqlNil rfl) ?_))))))
  refine jM (jE (jV (jK (WL.buildSlice (by with_unfolding_all exact rfl) rfl (by with_unfolding_all exact rfl) rfl (fun _ => ?_)))))
  refine jW ?_
  refine jc rfl (WL.boxSl (e := 3) (sz := 1) (n := 0) (xs := []) 1 rfl rfl (by decide) ?_)
  refine WL.appL (R := Ls.Int.rep) (l := []) (m := l) 1 rfl rfl ⟨[], rfl, trivial⟩ rfl hv (fun x cs h => by rw [h.1]; rfl) (by rfl) (by decide) (by simp only [List.length_nil]; omega) (by unfold maxLen; simp only [List.length_nil]; omega) rfl fun aa cc p' hp' => ?_
  refine WL.nSet ?_
  refine jh rfl (jM (jR ?_))
  rw [List.nil_append] at hp' ⊢
  exact jP [0] (jr1 rfl (jtS rfl)) ⟨rfl, _, _, _, rfl, rfl, hp'⟩
end Go.Proofs.YtggcpoleklcmkaaGreatDoor

namespace Go.Dc
open Go.Sl Go.Ls
def Atr.lim (a : Atr) : Prop := a.path.length ≤ 1000000 ∧ a.sty.fill.stops.length ≤ 1000000 ∧ a.sty.pen.stops.length ≤ 1000000 ∧ a.sty.dash.length ≤ 1000000
def Atr.small (a : Atr) : Prop := a.path.length ≤ 30 ∧ a.sty.fill.stops.length ≤ 30 ∧ a.sty.pen.stops.length ≤ 30 ∧ a.sty.dash.length ≤ 30
def AtrV (a : Atr) : Value → Mem → Prop := fun v I' => ∃ t u d q, v = .agg (a.cs t u d q).toArray ∧ a.at_ I' t u d q
def plainAtr : Atr := ⟨⟨65536, 0, 0, 65536, 0, 0⟩, ⟨Pnt.z, Pnt.z, 1, 0, 0, [], 0, 255, 0⟩, []⟩
end Go.Dc
namespace Go.Proofs.YtggcpoleklcmkaaGreatDoor
open Go.Sl Go.Ls Go.Dc
theorem scale_ctr (x y : Int) (I : Mem) : Ctr Tryz.prog 101 [vi x, vi y] I [] (Still I fun v => v = .agg #[vi x, vi 0, vi 0, vi y, vi 0, vi 0]) := by
 refine Ctr.intro Tryz.func101 rfl rfl rfl fun E F => ?_
 refine jS (WL.alloc rfl (fun _ => ?_))
 refine jW ?_
 refine jN (ja rfl (ja rfl (jm (Val.build (cs := [vi x, vi 0, vi 0, vi y, vi 0, vi 0]) rfl) ?_)))
 refine WL.stA 1 rfl rfl rfl rfl ?_
 refine jM (jR ?_)
 exact jP [] (jr1 rfl (jcL 1 rfl rfl rfl)) ⟨rfl, rfl, rfl⟩
theorem one_ctr (I : Mem) : Ctr Tryz.prog 63 [] I [] (Still I fun v => v = .agg #[vi 65536, vi 0, vi 0, vi 65536, vi 0, vi 0]) := by
 refine Ctr.intro Tryz.func63 rfl rfl rfl fun E F => ?_
 refine jS (WL.alloc rfl (fun _ => ?_))
 refine jW ?_
 refine jN (WL.callS rfl rfl (scale_ctr 65536 65536 _) rfl ?_)
 rintro _ rfl
 refine WL.stA 1 rfl rfl rfl rfl ?_
 refine jM (jR ?_)
 exact jP [] (jr1 rfl (jcL 1 rfl rfl rfl)) ⟨rfl, rfl, rfl⟩
theorem none_ctr (I : Mem) : Ctr Tryz.prog 64 [] I [] (Still I fun v => v = .agg (plainAtr.sty.cs (.slice none 0 0) (.slice none 0 0) (.slice none 0 0)).toArray) := by
 refine Ctr.intro Tryz.func64 rfl rfl rfl fun E F => ?_
 refine jS (WL.alloc rfl (fun _ => ?_))
 refine jW ?_
 refine jN (jm (Val.build (cs := (plainAtr.sty.cs (.slice none 0 0) (.slice none 0 0) (.slice none 0 0))) rfl) ?_)
 refine WL.stA 1 rfl rfl rfl rfl ?_
 refine jM (jR ?_)
 exact jP [] (jr1 rfl (jcL 1 rfl rfl rfl)) ⟨rfl, rfl, rfl⟩
theorem copied_ctr (a : Atr) (t u d q : Value) (I : Mem) (ha : a.at_ I t u d q) (hl : a.lim) :
  Ctr Tryz.prog 110 [.agg (a.cs t u d q).toArray] I [] (KeepR [] (AtrV a)) := by
 obtain ⟨l1, l2, l3, l4⟩ := hl
 refine Ctr.intro Tryz.func110 rfl rfl rfl fun E F => ?_
 refine jS (WL.boxA rfl rfl (fun _ => ?_))
 refine jW ?_
 refine WL.alloc rfl (fun _ => ?_)
 refine jW ?_
 refine jN (jm (jn rfl) (jm (jp 1 rfl rfl rfl) ?_))
 rename_i g1 g2
 refine WL.callP [] rfl rfl (cloneSg a.path q _ ha.path (by omega)) rfl ?_
 rintro _ I0 _ _ ⟨rfl, qa, qc, p, rfl, rfl, hp⟩
 refine jW ?_
 refine WL.freezeL 3 rfl hp fun I1 hI1 hq => ?_
 have ha1 : a.at_ I1 t u d (.slice qa a.path.length qc) := ⟨ha.mtx, ha.sty.mono hI1, hq⟩
 refine jm (jn rfl) (WL.stS 1 rfl rfl rfl rfl ?_)
 refine jN (jm (jn rfl) (jm (jn rfl) (jm (jn rfl) (jm (jp 1 rfl rfl rfl) (WL.callP [] rfl rfl (cloneI a.sty.dash d _ ha1.sty.dash (by omega)) rfl ?_)))))
 rintro _ I2 _ _ ⟨rfl, da, dc, p2, rfl, rfl, hp2⟩
 refine jW ?_
 refine WL.freezeL 3 rfl hp2 fun I3 hI3 hd => ?_
 have ha2 : a.at_ I3 t u (.slice da a.sty.dash.length dc) (.slice qa a.path.length qc) := by
  have h := ha1.mono hI3
  exact ⟨h.mtx, ⟨h.sty.fill, h.sty.pen, h.sty.rule, h.sty.half, h.sty.cap, hd, h.sty.phase, h.sty.opac, h.sty.mode⟩, h.path⟩
 refine jm (jn rfl) (jm (jn rfl) (jm (jn rfl) (WL.stS 1 rfl rfl rfl rfl ?_)))
 refine jM (jB (jS (jm (jn rfl) (jm (jn rfl) (jm (jn rfl) (jm (jn rfl) (WL.buildSlice (by with_unfolding_all exact rfl) rfl (by with_unfolding_all exact rfl) rfl (fun _ => ?_))))))))
 refine jW ?_
 refine jm (jo rfl) (ja rfl (jM (WC.block ?_)))
 rename_i g3
 refine WC.loop (fun n ρ' I' L' => ∃ (k : Nat) (t' u' : Value), n = 2 - k ∧ k ≤ 2 ∧ I3.le I' ∧ ρ' 1 = ptr g1 ∧ ρ' 2 = ptr g2 ∧ ρ' 21 = .slice (some ⟨g3, 0, none⟩) 2 2 ∧ ρ' 22 = vi 2 ∧ ρ' 23 = vi k ∧
   L' = [F, box g1 38 (a.cs t' u' (.slice da a.sty.dash.length dc) (.slice qa a.path.length qc)), box g2 38 [vi 0, vi 0, vi 0, vi 0, vi 0, vi 0, vi 0, .int .u8 0, .int .u8 0, .int .u8 0, .int .u8 0, vi 0, vi 0, vi 0, vi 0, .slice none 0 0, vi 0, .int .u8 0, .int .u8 0, .int .u8 0, .int .u8 0, vi 0, vi 0, vi 0, vi 0, .slice none 0 0, vi 0, vi 0, vi 0, .slice none 0 0, vi 0, vi 0, vi 0, .slice none 0 0], box g3 224 [.pointer (some ⟨g1, 6, none⟩), .pointer (some ⟨g1, 16, none⟩)]] ∧ a.at_ I' t' u' (.slice da a.sty.dash.length dc) (.slice qa a.path.length qc))
  2 ⟨0, t, u, rfl, by omega, Mem.le.refl _, rfl, rfl, rfl, rfl, rfl, rfl, ha2⟩ ?_
 rintro n ρ' I4 L' ⟨k, t', u', rfl, hk, hI4, r1, r2, r21, r22, r23, rfl, ha3⟩
 refine ju5 r23 r22 r21 r2 r1 ?_
 have hcase : k = 0 ∨ k = 1 ∨ k = 2 := by omega
 rcases hcase with rfl | rfl | rfl
 ·skip
  refine jS (jy rfl rfl (jM (jB (jF (jV (jA (jB (WC.block (jS (jm (jZ rfl rfl) (jm (jp 3 rfl rfl rfl) (ji rfl (jM (jD (jd rfl (jd rfl (jm (jr rfl) (jm (jn rfl) (jm (jp 1 rfl rfl rfl) (WL.callP [] rfl rfl (cloneStp a.sty.fill.stops t' _ ha3.sty.fill.stops (by omega)) rfl ?_))))))))))))))))))))
  rintro _ I5 _ _ ⟨rfl, ta, tc, p5, rfl, rfl, hp5⟩
  refine jW ?_
  refine WL.freezeL 4 rfl hp5 fun I6 hI6 ht => ?_
  have ha4 : a.at_ I6 (.slice ta a.sty.fill.stops.length tc) u' (.slice da a.sty.dash.length dc) (.slice qa a.path.length qc) := by
   have h := ha3.mono hI6
   exact ⟨h.mtx, ⟨⟨h.sty.fill.kind, h.sty.fill.frm, h.sty.fill.to, ht⟩, h.sty.pen, h.sty.rule, h.sty.half, h.sty.cap, h.sty.dash, h.sty.phase, h.sty.opac, h.sty.mode⟩, h.path⟩
  refine jm (jr rfl) (jm (jn rfl) (WL.stS 1 rfl rfl rfl rfl ?_))
  exact jC (WX.inNormal (jA (jD (jX rfl rfl (ja rfl (jC (WX.thenK (WK.round 1 (by omega) ⟨1, _, _, rfl, by omega, hI4.trans hI6, rfl, rfl, rfl, rfl, rfl, rfl, ha4⟩))))))))
 ·skip
  refine jS (jy rfl rfl (jM (jB (jF (jV (jA (jB (WC.block (jS (jm (jZ rfl rfl) (jm (jp 3 rfl rfl rfl) (ji rfl (jM (jD (jd rfl (jd rfl (jm (jr rfl) (jm (jn rfl) (jm (jp 1 rfl rfl rfl) (WL.callP [] rfl rfl (cloneStp a.sty.pen.stops u' _ ha3.sty.pen.stops (by omega)) rfl ?_))))))))))))))))))))
  rintro _ I5 _ _ ⟨rfl, ta, tc, p5, rfl, rfl, hp5⟩
  refine jW ?_
  refine WL.freezeL 4 rfl hp5 fun I6 hI6 ht => ?_
  have ha4 : a.at_ I6 t' (.slice ta a.sty.pen.stops.length tc) (.slice da a.sty.dash.length dc) (.slice qa a.path.length qc) := by
   have h := ha3.mono hI6
   exact ⟨h.mtx, ⟨h.sty.fill, ⟨h.sty.pen.kind, h.sty.pen.frm, h.sty.pen.to, ht⟩, h.sty.rule, h.sty.half, h.sty.cap, h.sty.dash, h.sty.phase, h.sty.opac, h.sty.mode⟩, h.path⟩
  refine jm (jr rfl) (jm (jn rfl) (WL.stS 1 rfl rfl rfl rfl ?_))
  exact jC (WX.inNormal (jA (jD (jX rfl rfl (ja rfl (jC (WX.thenK (WK.round 0 (by omega) ⟨2, _, _, rfl, by omega, hI4.trans hI6, rfl, rfl, rfl, rfl, rfl, rfl, ha4⟩))))))))
 ·obtain ⟨ta, tc, ua, uc, _, _, _, _, rfl, rfl, _, _⟩ := ha3.sl
  refine jS (jx rfl rfl (jM (jB (jE (WC.exit (WX.thenExit (WX.thenExit (WX.inHit (jK (jm (jt 1 rfl rfl rfl) (WL.stA 2 rfl rfl rfl rfl ?_)))))))))))
  refine jM (jR ?_)
  have hJ := hI1.trans (hI3.trans hI4)
  exact jP [] (jr1 rfl (jcL 2 rfl rfl rfl)) ⟨rfl, _, _, _, _, rfl, ha3⟩
end Go.Proofs.YtggcpoleklcmkaaGreatDoor

namespace Go.Dc
open Go.Sl Go.Ls Go.Tr
theorem tk_le : ∀ (f : Nat), (∀ (l : List Ent) n r, tk f l = some (n, r) → r.length < l.length) ∧ ∀ (k : Nat) (l : List Ent) ns r, tks f k l = some (ns, r) → r.length ≤ l.length := by
 intro f
 induction f with
 | zero =>
  refine ⟨fun l n r h => ?_, fun k l ns r h => ?_⟩
  ·rw [tk] at h; cases h
  ·cases k with
   | zero => rw [tks] at h; cases h; exact Nat.le_refl _
   | succ k => rw [tks] at h; cases h
 | succ f ih =>
  refine ⟨fun l n r h => ?_, fun k l ns r h => ?_⟩
  ·cases l with
   | nil => rw [tk] at h; cases h
   | cons x l =>
    rw [tk] at h
    split at h
    ·cases h
    ·split at h
     ·cases h
     ·rename_i ks rest he
      cases h
      have := ih.2 _ _ _ _ he
      simp only [List.length_cons]
      omega
  ·cases k with
   | zero => rw [tks] at h; cases h; exact Nat.le_refl _
   | succ k =>
    rw [tks] at h
    split at h
    ·cases h
    ·rename_i n r1 he
     split at h
     ·cases h
     ·rename_i ns' r2 he2
      cases h
      have h1 := ih.1 _ _ _ he
      have h2 := ih.2 _ _ _ _ he2
      omega
theorem tk_fuel : ∀ (f : Nat), (∀ (l : List Ent), 2 * l.length ≤ f → tk (f + 1) l = tk f l) ∧ ∀ (k : Nat) (l : List Ent), 2 * l.length + 1 ≤ f → tks (f + 1) k l = tks f k l := by
 intro f
 induction f with
 | zero =>
  refine ⟨fun l h => ?_, fun k l h => by omega⟩
  cases l with
  | nil => rw [tk, tk]
  | cons x l => simp at h
 | succ f ih =>
  refine ⟨fun l h => ?_, fun k l h => ?_⟩
  ·cases l with
   | nil => rw [tk, tk]
   | cons x l =>
    simp only [List.length_cons] at h
    rw [tk, tk, ih.2 _ _ (by omega)]
  ·cases k with
   | zero => rw [tks, tks]
   | succ k =>
    rw [tks, tks, ih.1 l (by omega)]
    cases he : tk f l with
    | none => rfl
    | some q =>
     obtain ⟨n, r⟩ := q
     have := (tk_le f).1 _ _ _ he
     simp only
     rw [ih.2 k r (by omega)]
theorem tks_more (k : Nat) (l : List Ent) (f : Nat) (h : 2 * l.length + 1 ≤ f) : tks f k l = tks (2 * l.length + 1) k l := by
 obtain ⟨g, rfl⟩ : ∃ g, f = 2 * l.length + 1 + g := ⟨f - (2 * l.length + 1), by omega⟩
 induction g with
 | zero => rfl
 | succ g ih => rw [← Nat.add_assoc, (tk_fuel _).2 k l (by omega), ih (by omega)]
def Tk (l : List Ent) : Option (Nd × List Ent) := tk (2 * l.length) l
def Tks (k : Nat) (l : List Ent) : Option (List Nd × List Ent) := tks (2 * l.length + 1) k l
theorem Tk_nil : Tk [] = none := by rw [Tk]; rfl
theorem Tk_cons (x : Ent) (r : List Ent) : Tk (x :: r) = if x.kids < 0 ∨ (r.length : Int) + 1 < x.kids then none else match Tks x.kids.toNat r with
  | none => none
  | some (ks, rest) => some (.mk x.id x.grp ks, rest) := by
 rw [Tk, show 2 * (x :: r).length = (2 * r.length + 1) + 1 by simp only [List.length_cons]; omega, tk]
 rfl
theorem Tks_zero (l : List Ent) : Tks 0 l = some ([], l) := by rw [Tks, tks]
theorem Tks_succ (k : Nat) (l : List Ent) : Tks (k + 1) l = match Tk l with
  | none => none
  | some (n, r) => match Tks k r with
   | none => none
   | some (ns, r') => some (n :: ns, r') := by
 rw [Tks, tks, Tk]
 cases he : tk (2 * l.length) l with
 | none => rfl
 | some q =>
  obtain ⟨n, r⟩ := q
  have := (tk_le _).1 _ _ _ he
  simp only
  rw [tks_more k r (2 * l.length) (by omega)]
  rfl
theorem Tk_le {l : List Ent} {n : Nd} {r : List Ent} (h : Tk l = some (n, r)) : r.length < l.length := (tk_le _).1 _ _ _ h
theorem Tks_le {k : Nat} {l : List Ent} {ns : List Nd} {r : List Ent} (h : Tks k l = some (ns, r)) : r.length ≤ l.length := (tk_le _).2 _ _ _ _ h
theorem Tks_add : ∀ (a b : Nat) (l : List Ent), Tks (a + b) l = match Tks a l with
  | none => none
  | some (ns, r) => match Tks b r with
   | none => none
   | some (ms, r') => some (ns ++ ms, r')
 | 0, b, l => by
  rw [Tks_zero, Nat.zero_add]
  simp only [List.nil_append]
  cases Tks b l with
  | none => rfl
  | some q => rfl
 | a + 1, b, l => by
  rw [show a + 1 + b = a + b + 1 by omega, Tks_succ, Tks_succ]
  cases Tk l with
  | none => rfl
  | some q =>
   obtain ⟨n, r⟩ := q
   simp only
   rw [Tks_add a b r]
   cases Tks a r with
   | none => rfl
   | some q =>
    obtain ⟨ns, r2⟩ := q
    simp only
    cases Tks b r2 with
    | none => rfl
    | some q => rfl
theorem spanGo_short (N : Int) : ∀ (l : List Ent) (o i : Int), (l.length : Int) < o → spanGo N o i l = -1
 | [], o, i, _ => rfl
 | x :: r, o, i, h => by
  simp only [List.length_cons] at h
  rw [spanGo]
  split
  ·rfl
  ·rename_i hk
   rw [if_neg (by omega), spanGo_short N r _ _ (by omega)]
theorem spanGo_eq (N : Int) : ∀ (l : List Ent) (k : Nat) (i : Int), (l.length : Int) ≤ N → spanGo N ((k : Int) + 1) i l = match Tks (k + 1) l with
  | none => -1
  | some (_, r) => i + ((l.length : Int) - r.length)
 | [], k, i, h => by rw [Tks_succ, Tk_nil]; rfl
 | x :: r, k, i, h => by
  simp only [List.length_cons] at h
  rw [Tks_succ, Tk_cons, spanGo]
  by_cases h1 : x.kids < 0 ∨ (r.length : Int) + 1 < x.kids
  ·rw [if_pos h1]
   simp only
   split
   ·rfl
   ·rename_i hk
    rw [if_neg (by omega), spanGo_short N r _ _ (by omega)]
  ·rw [if_neg h1, if_neg (by omega)]
   obtain ⟨m, hm⟩ : ∃ m : Nat, x.kids = m := ⟨x.kids.toNat, by omega⟩
   rw [hm, Int.toNat_natCast]
   have hadd := Tks_add m k r
   by_cases h0 : m + k = 0
   ·obtain ⟨rfl, rfl⟩ : m = 0 ∧ k = 0 := by omega
    rw [if_pos (by omega)]
    rw [Tks_zero]
    simp only
    rw [Tks_zero]
    show i + 1 = i + (((r.length + 1 : Nat) : Int) - (r.length : Int))
    omega
   ·rw [if_neg (by omega), show (k : Int) + 1 + (m : Int) - 1 = ((m + k - 1 : Nat) : Int) + 1 by omega, spanGo_eq N r (m + k - 1) (i + 1) (by omega), show m + k - 1 + 1 = m + k by omega, hadd]
    cases Tks m r with
    | none => rfl
    | some q =>
     obtain ⟨ns, r2⟩ := q
     simp only
     cases Tks k r2 with
     | none => rfl
     | some q =>
      simp only [List.length_cons]
      omega
theorem span_eq (l : List Ent) : span l = match Tk l with
  | none => -1
  | some (_, r) => (l.length : Int) - r.length := by
 have h := spanGo_eq l.length l 0 0 (Int.le_refl _)
 rw [span, show (1 : Int) = ((0 : Nat) : Int) + 1 by omega, h, Tks_succ]
 cases Tk l with
 | none => rfl
 | some q =>
  obtain ⟨n, r⟩ := q
  simp only
  rw [Tks_zero]
  show (0 : Int) + ((l.length : Int) - (r.length : Int)) = (l.length : Int) - (r.length : Int)
  omega
theorem Whole_iff (l : List Ent) : Whole l ↔ ∃ n, Tk l = some (n, []) := by
 rw [Whole, span_eq]
 constructor
 ·rintro ⟨h1, h2⟩
  cases h : Tk l with
  | none => rw [h] at h2; simp only at h2; omega
  | some q =>
   obtain ⟨n, r⟩ := q
   rw [h] at h2
   simp only at h2
   have : r.length = 0 := by omega
   exact ⟨n, by rw [List.eq_nil_of_length_eq_zero this]⟩
 ·rintro ⟨n, h⟩
  have := Tk_le h
  rw [h]
  exact ⟨by simpa using this, by simp⟩
end Go.Dc

namespace Go.Ls
open Go.Sl
theorem LsAt.drop2 {α : Type} {R : Rep α} {sz : Nat} [hL : RepLen R sz] {I : Mem} {l : List α} {b off n cap : Nat} (h : LsAt R I l (.slice (some ⟨b, off, none⟩) n cap)) (k : Nat) (hk : k ≤ l.length) : LsAt R I (l.drop k) (.slice (some ⟨b, if cap = k then off else off + k * sz, none⟩) (l.length - k) (cap - k)) := by
 by_cases hc : cap = k
 ·have h1 := h.cap
  rw [if_pos hc]
  have h2 : l.drop k = [] := List.drop_eq_nil_of_le (by omega)
  rw [h2]
  exact ⟨[], ⟨_, _, by rw [show l.length - k = 0 by omega]; rfl, ⟨by simp, by unfold maxLen; omega⟩, .inl ⟨rfl, rfl⟩⟩, trivial⟩
 ·rw [if_neg hc]
  exact h.drop k hk
end Go.Ls
namespace Go.Proofs.YtggcpoleklcmkaaGreatDoor
open Go.Sl Go.Ls Go.Tr Go.Dc
theorem span_ctr (l : List Ent) (v : Value) (I : Mem) (hv : LsAt Ent.rep I l v) (hl : l.length ≤ 1000000) : Ctr Tryz.prog 83 [v] I [] (Still I fun r => r = vi (span l)) := by
 obtain ⟨a1, c1, rfl⟩ := hv.sl
 refine Ctr.intro Tryz.func83 rfl rfl rfl fun E F => ?_
 refine jS (jf rfl (jN (jf rfl (jM (jB (jS (jc rfl (jm (jo rfl) (ja rfl (jM (WC.block ?_)))))))))))
 refine WC.loop (fun n ρ' I' L' => ∃ (k : Nat) (o : Int), n = l.length - k ∧ k ≤ l.length ∧ I' = I ∧ ρ' 0 = .slice a1 l.length c1 ∧ ρ' 3 = vi o ∧ ρ' 6 = .slice a1 l.length c1 ∧ ρ' 7 = vi l.length ∧ ρ' 8 = vi k ∧ L' = [F] ∧ 1 ≤ o ∧ o ≤ 1 + ((k * l.length : Nat) : Int) ∧ span l = spanGo l.length o k (l.drop k))
  l.length ⟨0, 1, rfl, by omega, rfl, rfl, rfl, rfl, rfl, rfl, rfl, by omega, by omega, rfl⟩ ?_
 rintro n ρ' I0 L' ⟨k, o, rfl, hk, rfl, r0, r3, r6, r7, r8, rfl, o1, o2, hgo⟩
 refine ju5 r8 r7 r6 r3 r0 ?_
 have hmul : k * l.length ≤ 1000000 * 1000000 := Nat.mul_le_mul (by omega) hl
 have hmul2 : (k + 1) * l.length = k * l.length + l.length := Nat.succ_mul _ _
 rw [hgo]
 by_cases hkn : k < l.length
 case neg =>
  have : k = l.length := by omega
  subst this
  rw [List.drop_length]
  refine jS (jx rfl rfl (jM (jB (jE (WC.exit (WX.thenExit (WX.thenExit (WX.inHit (jK (jf rfl (jM (jR ?_))))))))))))
  exact jP [] (jr1 rfl (jtI rfl)) ⟨rfl, rfl, rfl⟩
 obtain ⟨b, off, cap', cs, he, ⟨t1, t2, t3, t4, rfl, hi⟩, hA⟩ := hv.get k hkn
 cases he
 obtain ⟨b1, d1, b2, d2, b3, d3, b4, d4, rfl, rfl, rfl, rfl⟩ := hi.sl
 rw [List.drop_eq_getElem_cons hkn, spanGo]
 rw [List.drop_eq_getElem_cons hkn, spanGo] at hgo
 have hik := hi.kids
 generalize l[k] = x at *
 by_cases h1 : x.kids < 0
 ·rw [if_pos (.inl h1)]
  refine jS (jy rfl rfl (jM (jB (jF (jV (jA (jB (WC.block (jS (ja rfl (jm (jZ rfl rfl) (jm (Val.loadI rfl (by assumption) rfl) ?_))))))))))))
  refine WL.alloc rfl (fun _ => ?_)
  refine jW ?_
  refine jf rfl (WL.stA 1 rfl rfl rfl rfl ?_)
  refine jM (jB (jS (jm (jn rfl) (jm (jp 1 rfl rfl rfl) (jy rfl rfl (jb rfl (jH (jH (jH (jH (jH (jk rfl (jM (jF (jS (jf rfl (jM (jR (jU (WX.inRet (jU (jU (WX.inRet (jU ?_))))))))))))))))))))))))
  exact jP [] (jr1 rfl (jtI rfl)) ⟨rfl, rfl, rfl⟩
 by_cases h2 : (l.length : Int) < x.kids
 ·rw [if_pos (.inr h2)]
  refine jS (jy rfl rfl (jM (jB (jF (jV (jA (jB (WC.block (jS (ja rfl (jm (jZ rfl rfl) (jm (Val.loadI rfl (by assumption) rfl) ?_))))))))))))
  refine WL.alloc rfl (fun _ => ?_)
  refine jW ?_
  refine jf rfl (WL.stA 1 rfl rfl rfl rfl ?_)
  refine jM (jB (jS (jm (jn rfl) (jm (jp 1 rfl rfl rfl) (jx rfl rfl (jb rfl (jG (jm (jn rfl) (jG (jm (jp 1 rfl rfl rfl) (jG (jc rfl (jG (jm (jo rfl) (jG (jO rfl rfl (jk rfl (jM (jF (jS (jf rfl (jM (jR (jU (WX.inRet (jU (jU (WX.inRet (jU ?_)))))))))))))))))))))))))))))
  exact jP [] (jr1 rfl (jtI rfl)) ⟨rfl, rfl, rfl⟩
 rw [if_neg (by omega)] at hgo ⊢
 by_cases h3 : o + x.kids - 1 = 0
 ·rw [if_pos h3]
  refine jS (jy rfl rfl (jM (jB (jF (jV (jA (jB (WC.block (jS (ja rfl (jm (jZ rfl rfl) (jm (Val.loadI rfl (by assumption) rfl) ?_))))))))))))
  refine WL.alloc rfl (fun _ => ?_)
  refine jW ?_
  refine jf rfl (WL.stA 1 rfl rfl rfl rfl ?_)
  refine jM (jB (jS (jm (jn rfl) (jm (jp 1 rfl rfl rfl) (jx rfl rfl (jb rfl (jG (jm (jn rfl) (jG (jm (jp 1 rfl rfl rfl) (jG (jc rfl (jG (jm (jo rfl) (jG (jL rfl rfl (jk rfl (jM (jE (jV (jK (ja rfl (jm (jn rfl) (jm (jp 1 rfl rfl rfl) (jm (Val.sub rfl rfl (wrap_i64 (by omega) (by omega))) ?_)))))))))))))))))))))))))
  refine jX rfl rfl (jf rfl (jN (ja rfl (jw rfl rfl (jM (jF (jS (ja rfl (jX rfl rfl (jf rfl (jM (jR (WX.inRet (jU (jU (WX.inRet (jU ?_)))))))))))))))))
  exact jP [] (jr1 rfl (jtI rfl)) ⟨rfl, rfl, rfl⟩
 ·rw [if_neg h3] at hgo ⊢
  refine jS (jy rfl rfl (jM (jB (jF (jV (jA (jB (WC.block (jS (ja rfl (jm (jZ rfl rfl) (jm (Val.loadI rfl (by assumption) rfl) ?_))))))))))))
  refine WL.alloc rfl (fun _ => ?_)
  refine jW ?_
  refine jf rfl (WL.stA 1 rfl rfl rfl rfl ?_)
  refine jM (jB (jS (jm (jn rfl) (jm (jp 1 rfl rfl rfl) (jx rfl rfl (jb rfl (jG (jm (jn rfl) (jG (jm (jp 1 rfl rfl rfl) (jG (jc rfl (jG (jm (jo rfl) (jG (jL rfl rfl (jk rfl (jM (jE (jV (jK (ja rfl (jm (jn rfl) (jm (jp 1 rfl rfl rfl) (jm (Val.sub rfl rfl (wrap_i64 (by omega) (by omega))) ?_)))))))))))))))))))))))))
  refine jX rfl rfl (jf rfl (jN (ja rfl (jv rfl rfl (jM (jE (jV (WX.inNormal (jA (jD (jX rfl rfl (ja rfl (jC (WX.conv (fun w h => h.sub [0] rfl) ?_))))))))))))))
  rw [← hgo]
  refine WX.thenK (WK.round (l.length - (k + 1)) (by omega) ⟨k + 1, o + (x.kids - 1), rfl, by omega, rfl, rfl, rfl, rfl, rfl, rfl, rfl, by omega, by omega, ?_⟩)
  rw [hgo, show o + (x.kids - 1) = o + x.kids - 1 by omega]
  rfl
theorem whole_ctr (l : List Ent) (v : Value) (I : Mem) (hv : LsAt Ent.rep I l v) (hl : l.length ≤ 1000000) : Ctr Tryz.prog 38 [v] I [] (Still I (EqP (Whole l))) := by
 have hv0 := hv
 obtain ⟨a1, c1, rfl⟩ := hv.sl
 refine Ctr.intro Tryz.func38 rfl rfl rfl fun E F => ?_
 by_cases h0 : 0 < l.length
 ·skip
  refine jS (jg rfl (jN (jc rfl (jm (jo rfl) (jO rfl rfl (jb rfl (jG (jc rfl (jG (WL.callS rfl rfl (span_ctr l _ _ hv0 hl) rfl ?_))))))))))
  rintro _ rfl
  by_cases h1 : span l = l.length
  ·skip
   refine jG (jc rfl (jG (jm (jo rfl) (jG (jw rfl rfl (jk rfl (jg rfl (jM (jR ?_)))))))))
   exact jP [] (jr1 rfl (jtB rfl)) ⟨rfl, rfl, EqP.t ⟨h0, h1⟩⟩
  ·skip
   refine jG (jc rfl (jG (jm (jo rfl) (jG (jv rfl rfl (jk rfl (jg rfl (jM (jR ?_)))))))))
   exact jP [] (jr1 rfl (jtB rfl)) ⟨rfl, rfl, EqP.f fun e => h1 e.2⟩
 ·skip
  refine jS (jg rfl (jN (jc rfl (jm (jo rfl) (jL rfl rfl (jb rfl (jH (jH (jH (jH (jH (jk rfl (jg rfl (jM (jR ?_)))))))))))))))
  exact jP [] (jr1 rfl (jtB rfl)) ⟨rfl, rfl, EqP.f fun e => h0 e.1⟩
theorem Tks_step {k m : Nat} {r0 rest r : List Ent} {ns ms : List Nd} (hk : k < m) (h1 : Tks k r0 = some (ns, rest)) (h2 : Tks (m - k) rest = some (ms, r)) : ∃ n1 r1 ms', Tk rest = some (n1, r1) ∧ Tks (m - (k + 1)) r1 = some (ms', r) ∧ ms = n1 :: ms' ∧ Tks (k + 1) r0 = some (ns ++ [n1], r1) := by
 rw [show m - k = (m - (k + 1)) + 1 by omega, Tks_succ] at h2
 cases ht : Tk rest with
 | none => rw [ht] at h2; cases h2
 | some q =>
  obtain ⟨n1, r1⟩ := q
  rw [ht] at h2
  simp only at h2
  cases ht2 : Tks (m - (k + 1)) r1 with
  | none => rw [ht2] at h2; cases h2
  | some q =>
   obtain ⟨ms', r'⟩ := q
   rw [ht2] at h2
   cases h2
   refine ⟨n1, r1, ms', rfl, ht2, rfl, ?_⟩
   have h3 := Tks_add k 1 r0
   rw [h1] at h3
   simp only at h3
   rw [h3, Tks_succ, ht]
   simp only [Tks_zero]
def NodeR (n : Nd) (r : List Ent) : Value → Mem → List HP → Prop := fun w I' L' => L' = [] ∧ ∃ kv rv, w = .tuple #[.agg #[vi n.id, .bool n.grp, kv], rv] ∧ LsAt Nd.Rp I' n.kids kv ∧ I64 n.id ∧ LsAt Ent.rep I' r rv
theorem node_ctr (N : Nat) : ∀ (l : List Ent), l.length ≤ N → ∀ (n : Nd) (r : List Ent) (v : Value) (I : Mem), LsAt Ent.rep I l v → l.length ≤ 1000000 → Tk l = some (n, r) → Ctr Tryz.prog 108 [v] I [] (NodeR n r) := by
 induction N with
 | zero =>
  intro l h n r v I _ _ ht
  have := Tk_le ht
  omega
 | succ N ih =>
  intro l hlN n r v I hv hl ht
  cases l with
  | nil => rw [Tk_nil] at ht; cases ht
  | cons x r0 =>
   rw [Tk_cons] at ht
   split at ht
   ·cases ht
   rename_i hk
   split at ht
   ·cases ht
   rename_i ks rest hks
   cases ht
   obtain ⟨m, hm⟩ : ∃ m : Nat, x.kids = m := ⟨x.kids.toNat, by omega⟩
   rw [hm, Int.toNat_natCast] at hks
   rw [hm] at hk
   simp only [List.length_cons] at hl hlN
   obtain ⟨b, off, cap', cs, he, ⟨t1, t2, t3, t4, rfl, hi⟩, hA⟩ := hv.get 0 (by simp)
   subst he
   have hid := hi.id
   simp only [List.getElem_cons_zero, List.length_cons] at hA hv hid hi
   rw [List.length_cons]
   have hA0 : At I b (off + (0 : Int).toNat * 37) [vi x.id] := hA.zero rfl
   have hA1 : At I b (off + (0 : Int).toNat * 37 + 1) [.bool x.grp] := hA.one (k := 1) rfl
   have hA2 : At I b (off + (0 : Int).toNat * 37 + 2) [vi x.kids] := hA.one (k := 2) rfl
   refine Ctr.intro Tryz.func108 rfl rfl rfl fun E F => ?_
   refine jS (WL.alloc rfl (fun _ => ?_))
   refine jW ?_
   refine jh rfl (jM (jB (j8 999 [] rfl (jT 0 rfl (Val.moveS rfl) (jT 1 rfl (jZ rfl rfl) (jT 2 rfl (jn rfl) (jT 3 rfl (Val.loadS rfl (Rd.imm hA0)) ?_)))))))
   refine jT 4 rfl (Val.moveS rfl) (jT 5 rfl (jZ rfl rfl) (jT 6 rfl (jn rfl) (jT 7 rfl (Val.loadS rfl (Rd.imm hA1)) ?_)))
   refine jT 8 rfl (Val.build (cs := [vi x.id, .bool x.grp, .slice none 0 0]) rfl) ?_
   refine j5 9 rfl (WL.alloc rfl (fun _ => ?_))
   refine jW ?_
   refine jC (j7 [] rfl (j5 10 rfl (WL.stA 2 rfl rfl rfl rfl ?_)))
   refine jC (j7 [] rfl (j6 (jK (jc rfl ?_))))
   rename_i g1 g2
   have hv1 := hv.drop2 1 (by simp)
   have hcp := hv.cap
   simp only [List.drop_succ_cons, List.drop_zero, List.length_cons] at hv1 hcp
   refine jm (Val.sliceFrom2 (m := 1) rfl rfl (by omega) (by omega)) ?_
   generalize Value.slice (some ⟨b, if cap' = 1 then off else off + 1 * 37, none⟩) (r0.length + 1 - 1) (cap' - 1) = rv0 at hv1 ⊢
   rw [hm] at hA2
   refine WL.val Val.assign rfl ?_
   refine jM (jB (jS (jc rfl (jm (jZ rfl rfl) (jm (jn rfl) (jm (Val.loadS rfl (Rd.imm (by assumption))) ?_))))))
   refine ja rfl (jM (WC.block (WC.slNil 72 3 ?_)))
   refine WC.nApp ?_
   refine WC.loop (fun n ρ' I' L' => ∃ (k : Nat) (ns ms : List Nd) (rest : List Ent) (rv : Value) (a : Option Addr) (c : Nat) (p : HP), n = m - k ∧ k ≤ m ∧ I.le I' ∧ ρ' 2 = ptr g1 ∧ ρ' 4 = ptr g2 ∧ ρ' 5 = rv ∧ ρ' 21 = vi m ∧ ρ' 22 = vi k ∧
     L' = [F, box g1 72 [vi 0, .bool false, .slice none 0 0], box g2 72 [vi x.id, .bool x.grp, .slice a ns.length c], p] ∧ OwnL Nd.Rp 72 3 I' ns (.slice a ns.length c) p ∧
     LsAt Ent.rep I' rest rv ∧ Tks k r0 = some (ns, rest) ∧ Tks (m - k) rest = some (ms, r) ∧ ks = ns ++ ms ∧ ns.length = k)
    m ⟨0, [], ks, r0, rv0, _, _, _, rfl, by omega, Mem.le.refl _, rfl, rfl, rfl, rfl, rfl, rfl, ⟨[], rfl, trivial⟩, hv1, Tks_zero _, hks, rfl, rfl⟩ ?_
   rintro n ρ' I0 L' ⟨k, ns, ms, rest, rv, a, c, p, rfl, hkm, hI, q2, q4, q5, q21, q22, rfl, hp, hrv, ht1, ht2, hns, hnl⟩
   refine ju5 q22 q21 q5 q4 q2 ?_
   have hrl := Tks_le ht1
   by_cases hkn : k < m
   ·obtain ⟨n1, r1, ms', hk1, hk2, rfl, hk3⟩ := Tks_step hkn ht1 ht2
    refine jS (jy rfl rfl (jM (jB (jF (jV (jA (jB (WC.block (jS (WL.alloc rfl (fun _ => ?_)))))))))))
    refine jW ?_
    refine jN (WL.val Val.move rfl ?_)
    refine WL.callP [] rfl rfl (ih rest (by omega) n1 r1 _ _ hrv (by omega) hk1) rfl ?_
    rintro _ I2 _ hI2 ⟨rfl, kv, rv2, rfl, hkv, hid1, hrv2⟩
    have hkv0 := hkv
    obtain ⟨a2, c2, rfl⟩ := hkv.sl
    refine jW ?_
    refine je rfl (jm (Val.extractA rfl rfl) (jm (Val.extract rfl rfl) ?_))
    refine WL.stA 4 rfl rfl rfl rfl ?_
    refine WL.val Val.assign rfl ?_
    refine jM (jD (jm (jn rfl) (jm (jp 2 rfl rfl rfl) (jm (jt 4 rfl rfl rfl) (WL.buildSlice (by with_unfolding_all exact rfl) rfl (by with_unfolding_all exact rfl) rfl (fun _ => ?_))))))
    refine jW ?_
    rename_i g5 g6
    refine WL.appOne (y := n1) (cs := [vi n1.id, .bool n1.grp, .slice a2 n1.kids.length c2]) 3 5 rfl rfl (hp.mono hI2) rfl rfl (Nd.rep_iff.2 ⟨hid1, _, rfl, hkv⟩) rfl rfl (by rfl) (by decide) (by omega) (by unfold maxLen; omega) rfl fun aa cc p' hp' => ?_
    refine WL.nSet ?_
    refine jm (jn rfl) (WL.stS 2 rfl rfl rfl rfl ?_)
    refine jC (WX.inNormal (jA (jD (jX rfl rfl (ja rfl (jC (WX.conv (fun w h => h.sub [0, 0, 0, 0] rfl) ?_)))))))
    refine WX.thenK (WK.round (m - (k + 1)) (by omega) ⟨k + 1, ns ++ [n1], ms', r1, rv2, aa, cc, p', rfl, by omega, hI.trans hI2, rfl, rfl, rfl, rfl, rfl, ?_, ?_, hrv2, hk3, hk2, by rw [hns]; simp, by simp [hnl]⟩)
    ·rw [List.length_append]; rfl
    ·rw [List.length_append]; exact hp'
   ·have : k = m := by omega
    subst this
    rw [Nat.sub_self, Tks_zero] at ht2
    cases ht2
    rw [List.append_nil] at hns
    subst hns
    refine jS (jx rfl rfl (jM (jB (jE (WC.exit (WX.thenExit (WX.thenExit (WX.inHit (jK (jm (jt 2 rfl rfl rfl) (WL.val Val.move rfl ?_)))))))))))
    refine WL.stA 1 rfl rfl rfl rfl ?_
    refine WL.val Val.assign rfl ?_
    refine jM (jR (WX.freezeL 3 rfl hp fun I2 hI2 hv => ?_))
    have hJ := hI.trans hI2
    exact jP [] (jr2 rfl (jcL 1 rfl rfl rfl) (ResIs.tmp rfl)) ⟨rfl, _, _, rfl, hv, hid, hrv.mono hI2⟩
end Go.Proofs.YtggcpoleklcmkaaGreatDoor

namespace Go.Dc
open Go.Sl Go.Ls Go.Tr
theorem ents_len (at_ : Int → Atr) (n : Nd) : (ents at_ n).length = n.size := by
 refine Nd.rec (motive_1 := fun n => (ents at_ n).length = n.size) (motive_2 := fun l => (entss at_ l).length = Nd.sizes l) ?_ ?_ ?_ n
 ·intro i g ks h
  rw [ents, Nd.size, List.length_cons, h]; omega
 ·rw [entss, Nd.sizes]; rfl
 ·intro k ks h1 h2
  rw [entss, Nd.sizes, List.length_append, h1, h2]
theorem entss_app (at_ : Int → Atr) : ∀ (a b : List Nd), entss at_ (a ++ b) = entss at_ a ++ entss at_ b
 | [], b => by rw [entss]; rfl
 | x :: a, b => by rw [List.cons_append, entss, entss, entss_app at_ a b, List.append_assoc]
theorem entss_len (at_ : Int → Atr) : ∀ (l : List Nd), (entss at_ l).length = Nd.sizes l
 | [] => by rw [entss, Nd.sizes]; rfl
 | x :: l => by rw [entss, Nd.sizes, List.length_append, ents_len, entss_len at_ l]
theorem ents_eq (at_ : Int → Atr) (n : Nd) : ents at_ n = ⟨n.id, n.grp, n.kids.length, at_ n.id⟩ :: entss at_ n.kids := by cases n; rfl
def AtRep (I : Mem) (at_ : Int → Option Atr) (f : Int → Option Value) : Prop := ∀ i, (at_ i = none ∧ f i = none) ∨ ∃ a v, at_ i = some a ∧ f i = some v ∧ AtrV a v I
theorem AtrV.mono {a : Atr} {v : Value} {I I' : Mem} (h : AtrV a v I) (hI : I.le I') : AtrV a v I' := by
 obtain ⟨t, u, d, q, h1, h2⟩ := h
 exact ⟨t, u, d, q, h1, h2.mono hI⟩
theorem AtRep.mono {I I' : Mem} {at_ : Int → Option Atr} {f : Int → Option Value} (h : AtRep I at_ f) (hI : I.le I') : AtRep I' at_ f := fun i => (h i).imp id fun ⟨a, v, h1, h2, h3⟩ => ⟨a, v, h1, h2, h3.mono hI⟩
abbrev zAtr : Value := .agg (Atr.z.cs (.slice none 0 0) (.slice none 0 0) (.slice none 0 0) (.slice none 0 0)).toArray
theorem AtRep.get {I : Mem} {at_ : Int → Option Atr} {f : Int → Option Value} (h : AtRep I at_ f) (i : Int) : AtrV ((at_ i).getD Atr.z) ((f i).getD zAtr) I := by
 rcases h i with ⟨h1, h2⟩ | ⟨a, v, h1, h2, h3⟩
 ·rw [h1, h2]; exact ⟨_, _, _, _, rfl, Atr.z_at I⟩
 ·rw [h1, h2]; exact h3
end Go.Dc
namespace Go.Proofs.YtggcpoleklcmkaaGreatDoor
open Go.Sl Go.Ls Go.Tr Go.Dc
instance : MapK Tryz.prog 78 zAtr := ⟨by kernel_rfl⟩
abbrev docBox (b tb mb : Nat) (s : Int) : HP := box b 136 [ptr tb, .map (some mb), vi s]
structure Dm where
 b : Nat
 A : Ar
 mb : Nat
 f : Int → Option Value
 cnt : Nat
 segs : Int
abbrev Dm.hp (D : Dm) : List HP := docBox D.b D.A.b D.mb D.segs :: mp D.mb D.f D.cnt :: D.A.hp
structure DAbs (I : Mem) (D : Dm) (d : Dr) : Prop where
 abs : Abs D.A d.top
 rep : AtRep I d.at_ D.f
 segs : D.segs = d.segs
 dom : ∀ i, (d.at_ i).isSome = true ↔ i ≠ 0 ∧ i ∈ d.top.order
 lim : ∀ i a, d.at_ i = some a → a.lim
theorem DAbs.mono {I I' : Mem} {D : Dm} {d : Dr} (h : DAbs I D d) (hI : I.le I') : DAbs I' D d := ⟨h.abs, h.rep.mono hI, h.segs, h.dom, h.lim⟩
theorem entries_ctr (at_ : Int → Option Atr) (f : Int → Option Value) (b tb mb cnt : Nat) (s : Int) (hlim : ∀ i a, at_ i = some a → a.lim) (N : Nat) : ∀ (nd : Nd), nd.size ≤ N → ∀ (kv : Value) (I : Mem), nd.size ≤ 1000000 → LsAt Nd.Rp I nd.kids kv → I64 nd.id → AtRep I at_ f →
  Ctr Tryz.prog 77 [ptr b, .agg #[vi nd.id, .bool nd.grp, kv]] I [docBox b tb mb s, mp mb f cnt] (KeepR [docBox b tb mb s, mp mb f cnt] fun v I' => LsAt Ent.rep I' (ents (fun i => (at_ i).getD Atr.z) nd) v) := by
 induction N with
 | zero => intro nd h; have := nd.size_pos; omega
 | succ N ih =>
  intro nd hs kv I hb hkv hid hat
  have hkv0 := hkv
  obtain ⟨ka, kc, rfl⟩ := hkv.sl
  have hsz := sizes_lt nd
  have hll := Nd.len_le_sizes nd.kids
  obtain ⟨t0, u0, d0, q0, hf, ha0⟩ := hat.get nd.id
  have hl0 : ((at_ nd.id).getD Atr.z).lim := by
   cases h : at_ nd.id with
   | none => exact ⟨by decide, by decide, by decide, by decide⟩
   | some a => exact hlim _ _ h
  generalize hg0 : (at_ nd.id).getD Atr.z = a0 at *
  refine Ctr.intro Tryz.func77 rfl rfl rfl fun E F => ?_
  refine jS (WL.boxA rfl rfl (fun _ => ?_))
  refine jW ?_
  refine jh rfl (jM (jB (j8 999 [1, 1, 1] rfl (jT 0 rfl (jn rfl) (jT 1 rfl (jp 2 rfl rfl rfl) (jT 2 rfl (jn rfl) (jT 3 rfl (jp 2 rfl rfl rfl) (jT 4 rfl (jn rfl) (jT 5 rfl (jp 2 rfl rfl rfl) (jT 6 rfl (jo rfl) (jT 7 rfl (Val.moveP rfl) (jT 8 rfl (jr rfl) (jT 9 rfl (jn rfl) (jT 10 rfl (jp 0 rfl rfl rfl) (jT 11 rfl (jn rfl) (jT 12 rfl (jp 2 rfl rfl rfl) (jT 13 rfl (Val.lookup1v 1 hf rfl rfl rfl) ?_)))))))))))))))))
  refine j5 14 rfl (WL.callP [] rfl rfl (copied_ctr a0 _ _ _ _ _ ha0 hl0) rfl ?_)
  rintro _ I1 _ hI1 ⟨rfl, t1, u1, d1, q1, rfl, ha1⟩
  refine jW ?_
  refine jC (j9 [1, 1, 1] (hI1) rfl ?_)
  obtain ⟨b1, r1, b2, r2, b3, r3, b4, r4, rfl, rfl, rfl, rfl⟩ := ha1.sl
  refine jT 15 rfl (Val.build (cs := Ent.cs ⟨nd.id, nd.grp, nd.kids.length, a0⟩ (.slice b1 a0.sty.fill.stops.length r1) (.slice b2 a0.sty.pen.stops.length r2) (.slice b3 a0.sty.dash.length r3) (.slice b4 a0.path.length r4)) rfl) ?_
  refine j5 16 rfl (WL.buildSlice (by with_unfolding_all exact rfl) rfl (by with_unfolding_all exact rfl) rfl (fun _ => ?_))
  rename_i g3 g4
  refine jW ?_
  refine WL.boxSl (e := 69) (sz := 37) (n := 1) 4 rfl rfl (by decide) ?_
  refine jC (j9 [1, 1, 1] (hI1) rfl (jT 17 rfl (Val.assignS rfl) (j6 (jA (jB (jS (jm (jn rfl) (jm (jp 3 rfl rfl rfl) (jm (jo rfl) (ja rfl (jM (WC.block ?_))))))))))))
  have hp0 : OwnL Ent.rep 69 37 I1 [⟨nd.id, nd.grp, nd.kids.length, a0⟩] (.slice (some ⟨g4, 0, none⟩) 1 1) (sl 69 37 (.slice (some ⟨g4, 0, none⟩) 1 1) 1 (Ent.cs ⟨nd.id, nd.grp, nd.kids.length, a0⟩ (.slice b1 a0.sty.fill.stops.length r1) (.slice b2 a0.sty.pen.stops.length r2) (.slice b3 a0.sty.dash.length r3) (.slice b4 a0.path.length r4))) :=
   ⟨[_], rfl, ⟨_, _, _, _, rfl, hid, ⟨by show (-9223372036854775808 : Int) ≤ (nd.kids.length : Int); omega, by show (nd.kids.length : Int) ≤ 9223372036854775807; omega⟩, ha1⟩, trivial⟩
  have hel := entss_len (fun i => (at_ i).getD Atr.z) nd.kids
  refine WC.loop (fun n ρ' I' L' => ∃ (k : Nat) (a : Option Addr) (c : Nat) (p : HP), n = nd.kids.length - k ∧ k ≤ nd.kids.length ∧ I1.le I' ∧ ρ' 0 = ptr b ∧ ρ' 5 = .slice a (1 + Nd.sizes (nd.kids.take k)) c ∧ ρ' 26 = .slice ka nd.kids.length kc ∧ ρ' 27 = vi nd.kids.length ∧ ρ' 28 = vi k ∧
    L' = [F, docBox b tb mb s, mp mb f cnt, box g3 72 [vi nd.id, .bool nd.grp, .slice ka nd.kids.length kc], p] ∧ OwnL Ent.rep 69 37 I' (⟨nd.id, nd.grp, nd.kids.length, a0⟩ :: entss (fun i => (at_ i).getD Atr.z) (nd.kids.take k)) (.slice a (1 + Nd.sizes (nd.kids.take k)) c) p)
   nd.kids.length ⟨0, _, _, _, rfl, by omega, Mem.le.refl _, rfl, rfl, rfl, rfl, rfl, rfl, hp0⟩ ?_
  rintro n ρ' I2 L' ⟨k, a, c, p, rfl, hk, hI2, q0, q5, q26, q27, q28, rfl, hp⟩
  refine ju5 q28 q27 q26 q5 q0 ?_
  by_cases hkn : k < nd.kids.length
  ·obtain ⟨bk, ofk, cak, cs, he, hR, hA⟩ := (hkv.mono (hI1.trans hI2)).get k hkn
   cases he
   obtain ⟨hik, kv1, rfl, hkv1⟩ := Nd.rep_iff.1 hR
   have hkv10 := hkv1
   obtain ⟨ka1, kc1, rfl⟩ := hkv1.sl
   have hbk := kid_sz hkn
   have hst := Nd.sizes_take nd.kids (k + 1)
   have htk : Nd.sizes (nd.kids.take (k + 1)) = Nd.sizes (nd.kids.take k) + (nd.kids[k]).size := by rw [take1 _ _ hkn, Nd.sizes_app, Nd.sizes, Nd.sizes, Nat.add_zero]
   have hen : entss (fun i => (at_ i).getD Atr.z) (nd.kids.take (k + 1)) = entss (fun i => (at_ i).getD Atr.z) (nd.kids.take k) ++ ents (fun i => (at_ i).getD Atr.z) (nd.kids[k]) := by rw [take1 _ _ hkn, entss_app, entss, entss, List.append_nil]
   have hek := ents_len (fun i => (at_ i).getD Atr.z) (nd.kids[k])
   have hets := entss_len (fun i => (at_ i).getD Atr.z) (nd.kids.take k)
   refine jS (jy rfl rfl (jM (jB (jF (jV (jA (jB (WC.block (jS (jm (jZ rfl rfl) (jm (Val.loadI rfl (by assumption) rfl) ?_)))))))))))
   refine WL.alloc rfl (fun _ => ?_)
   refine jW ?_
   refine WL.stA 5 rfl rfl rfl rfl ?_
   refine jM (jD (jc rfl (jd rfl (jm (jt 5 rfl rfl rfl) (WL.callR [1, 1] rfl rfl rfl (ih _ (kid_lt hs hkn) _ _ (by omega) hkv10 hik (hat.mono (hI1.trans hI2))) rfl ?_)))))
   rintro v I3 hI3 hv
   refine WL.appL (R := Ent.rep) 4 rfl rfl (hp.mono hI3) rfl hv (fun x cs h => ?_) (by rfl) (by decide) (by simp only [List.length_cons, hets, hek]; omega) (by simp only [List.length_cons, hets, hek]; unfold maxLen; omega) rfl fun aa cc p' hp' => ?_
   ·obtain ⟨t1, u1, d1, q1, rfl, h⟩ := h
    obtain ⟨_, _, _, _, _, _, _, _, rfl, rfl, rfl, rfl⟩ := h.sl
    rfl
   refine WL.nSet ?_
   have hlen : ((⟨nd.id, nd.grp, nd.kids.length, a0⟩ : Ent) :: entss (fun i => (at_ i).getD Atr.z) (nd.kids.take k) ++ ents (fun i => (at_ i).getD Atr.z) (nd.kids[k])).length = 1 + Nd.sizes (nd.kids.take (k + 1)) := by
    simp only [List.length_append, List.length_cons, hets, hek]; omega
   rw [hlen] at hp' ⊢
   rw [List.cons_append, ← hen] at hp'
   exact jh rfl (jC (WX.inNormal (jA (jD (jX rfl rfl (ja rfl (jC (WX.conv (fun w h => h.sub [0, 0, 0, 0, 0] rfl) (WX.thenK (WK.round (nd.kids.length - (k + 1)) (by omega) ⟨k + 1, aa, cc, p', rfl, by omega, hI2.trans hI3, rfl, rfl, rfl, rfl, rfl, rfl, hp'⟩))))))))))
  ·have : k = nd.kids.length := by omega
   subst this
   rw [List.take_length] at hp ⊢
   refine jS (jx rfl rfl (jM (jB (jE (WC.exit (WX.thenExit (WX.thenExit (WX.inHit (jK (jc rfl (jh rfl (jM (jR (WX.freezeL 4 rfl hp fun I3 hI3 hv => ?_))))))))))))))
   have hJ := hI1.trans (hI2.trans hI3)
   refine jP [0, 0] (jr1 rfl (jtS rfl)) ?_
   refine ⟨rfl, ?_⟩
   rw [ents_eq]
   simp only [hg0]
   exact hv
theorem dNew (I : Mem) : Ctr Tryz.prog 32 [] I [] (fun v I' L' => I' = I ∧ ∃ b tb mb cg db, v = ptr db ∧ L' = docBox db b tb 0 :: mp tb (fun _ => none) 0 :: (Ar.fresh b mb cg).hp) := by
 refine Ctr.intro Tryz.func32 rfl rfl rfl fun E F => ?_
 refine jS (ji rfl (jN (WL.callP [] rfl rfl (tNew _) rfl ?_)))
 rintro _ I1 _ _ ⟨rfl, b, mb, cg, rfl, rfl⟩
 refine jW ?_
 refine WL.makeMap rfl fun tb => ?_
 refine jW ?_
 refine jm (Val.build (cs := [ptr b, .map (some tb), vi 0]) rfl) ?_
 refine WL.boxA rfl rfl (fun _ => ?_)
 refine jW ?_
 refine ji rfl (jM (jR ?_))
 rename_i db
 exact jP [6, 5, 0, 0, 0, 0, 0] (jr1 rfl (ResIs.tmpP rfl)) ⟨rfl, b, tb, mb, cg, db, rfl, rfl⟩
theorem dEntries (D : Dm) (d : Dr) (I : Mem) (hD : DAbs I D d) : Ctr Tryz.prog 28 [ptr D.b] I D.hp (KeepR D.hp fun v I' => LsAt Ent.rep I' d.entries v) := by
 have hsz := hD.abs.size_le
 have hit : I64 d.top.id := by rw [hD.abs.id0]; exact ⟨by decide, by decide⟩
 refine Ctr.intro Tryz.func28 rfl rfl rfl fun E F => ?_
 refine jS (jh rfl (jN (jd rfl (jm (jr rfl) (jm (jn rfl) (jm (jp 1 rfl rfl rfl) (WL.callR [3, 3, 3, 3, 3] rfl rfl rfl (aNode D.A d.top hD.abs 0 _) rfl ?_)))))))
 rintro _ I1 hI1 ⟨_, rfl, kn, rfl, hkn, hin⟩
 rw [hD.abs.find0] at hkn hin ⊢
 simp only [Option.isSome, Option.getD] at hkn hin ⊢
 have hkn0 := hkn
 obtain ⟨na, nc, rfl⟩ := hkn.sl
 refine je rfl (jm (Val.extractA rfl rfl) (jm (Val.extractB rfl rfl) (WL.alloc rfl (fun _ => ?_))))
 refine jW ?_
 refine WL.stA 8 rfl rfl rfl rfl ?_
 refine jg rfl (jN (jd rfl (jm (jt 8 rfl rfl rfl) (WL.callR [1, 1] rfl rfl rfl (entries_ctr d.at_ D.f D.b D.A.b D.mb D.cnt D.segs hD.lim _ d.top (Nat.le_refl _) _ _ (by omega) hkn0 hin (hD.rep.mono hI1)) rfl ?_))))
 rintro v I2 hI2 hv
 have hel := ents_len (fun i => (d.at_ i).getD Atr.z) d.top
 have hpos := d.top.size_pos
 obtain ⟨bb, off, cap, cs, he, _, _⟩ := hv.get 0 (by omega)
 subst he
 have hv1 := hv.drop2 1 (by omega)
 have hcp := hv.cap
 refine jm (Val.sliceFrom2 (m := 1) rfl rfl (by omega) (by omega)) ?_
 refine jh rfl (jM (jR ?_))
 have hJ := hI1.trans hI2
 refine jP [0, 0, 0, 0, 0, 0, 0] (jr1 rfl (jtS rfl)) ?_
 refine ⟨rfl, ?_⟩
 rw [Dr.entries, ← List.drop_one]
 exact hv1
end Go.Proofs.YtggcpoleklcmkaaGreatDoor

namespace Go.Tr
open Go.Sl Go.Ls
namespace Nd
theorem count_with {q : Int} (x : Int) (ks : List Nd) (n : Nd) : ∀ p, Nd.find q n = some p → n.order.Nodup → (Nd.with_ q ks n).order.count x + (orders p.kids).count x = n.order.count x + (orders ks).count x := by
 refine Nd.rec (motive_1 := fun n => ∀ p, Nd.find q n = some p → n.order.Nodup → (Nd.with_ q ks n).order.count x + (orders p.kids).count x = n.order.count x + (orders ks).count x) (motive_2 := fun l => ∀ p, finds q l = some p → (orders l).Nodup → (orders (withs q ks l)).count x + (orders p.kids).count x = (orders l).count x + (orders ks).count x) ?_ ?_ ?_ n
 ·intro j g ks0 ih p hp ho
  rw [Nd.find] at hp
  rw [Nd.with_, order, order, List.count_cons, List.count_cons]
  rw [order, List.nodup_cons] at ho
  by_cases hj : j = q
  ·rw [if_pos hj] at hp; cases hp
   rw [if_pos hj]
   show _ + (orders ks0).count x = _
   omega
  ·rw [if_neg hj] at hp
   rw [if_neg hj]
   have := ih p hp ho.2
   omega
 ·intro p hp; simp [finds] at hp
 ·intro k l h1 h2 p hp ho
  rw [finds] at hp
  rw [orders, List.nodup_append] at ho
  rw [withs, orders, orders, List.count_append, List.count_append]
  cases hk : Nd.find q k with
  | some y =>
   rw [hk] at hp; cases hp
   have hq : q ∈ k.order := (find_some q k).1 (by rw [hk]; rfl)
   have h3 := h1 _ hk ho.1
   rw [withs_none q _ l fun hl => ho.2.2 q hq q hl rfl]
   omega
  | none =>
   rw [hk] at hp
   have hn : q ∉ k.order := fun hm => by
    have := (find_some q k).2 hm
    rw [hk] at this; cases this
   have h3 := h2 _ hp ho.2.1
   rw [with_none q _ k hn]
   omega
theorem add_err {top n : Nd} {p ix : Int} : (Nd.add top p ix n).2 ≠ 0 → (Nd.add top p ix n).1 = top := by
 rw [Nd.add]
 repeat' split
 all_goals (intro h; first | rfl | exact absurd rfl h)
theorem move_err {top : Nd} {i p ix : Int} : (Nd.move top i p ix).2 ≠ 0 → (Nd.move top i p ix).1 = top := by
 rw [Nd.move]
 repeat' split
 all_goals (intro h; first | rfl | exact absurd rfl h)
theorem wrap_err {top : Nd} {i p ix c : Int} : (Nd.wrap top i p ix c).2 ≠ 0 → (Nd.wrap top i p ix c).1 = top := by
 rw [Nd.wrap]
 repeat' split
 all_goals (intro h; first | rfl | exact absurd rfl h)
theorem unwrap_err {top : Nd} {i : Int} : (Nd.unwrap top i).2.2.2.2 ≠ 0 → (Nd.unwrap top i).1 = top := by
 rw [Nd.unwrap]
 repeat' split
 all_goals (intro h; first | rfl | exact absurd rfl h)
theorem count_td (x : Int) (l : List Nd) (k : Nat) : (orders (l.take k)).count x + (orders (l.drop k)).count x = (orders l).count x := by
 rw [← List.count_append, ← orders_app, List.take_append_drop]
theorem count_rem (x : Int) {l : List Nd} {k : Nat} (hk : k < l.length) : (orders (l.take k ++ l.drop (k + 1))).count x + (l[k]).order.count x = (orders l).count x := by
 have h1 := count_td x l k
 rw [drop_eq hk, orders, List.count_append] at h1
 rw [orders_app, List.count_append]; omega
theorem count_find {i : Int} {n : Nd} : (Nd.find i n).isSome = true ↔ 0 < n.order.count i := by
 rw [find_some, List.count_pos_iff]
theorem count_add {top n : Nd} {p ix : Int} (ho : top.order.Nodup) (h : (Nd.add top p ix n).2 = 0) (x : Int) : (Nd.add top p ix n).1.order.count x = top.order.count x + n.order.count x := by
 rw [Nd.add] at h ⊢
 split at h
 ·exact absurd h (by show ¬ (31 : Int) = 0; decide)
 ·rename_i m hm
  split at h
  ·exact absurd h (by show ¬ (33 : Int) = 0; decide)
  ·rename_i hg
   rw [if_neg hg]
   split at h
   ·exact absurd h (by show ¬ (30 : Int) = 0; decide)
   ·rename_i hx
    rw [if_neg hx]
    split at h
    ·rename_i hf
     exact absurd h hf
    ·rename_i hf
     rw [if_neg hf]
     have h1 := count_with x (m.kids.take ix.toNat ++ n :: m.kids.drop ix.toNat) top m hm ho
     have h2 := count_td x m.kids ix.toNat
     rw [orders_app, orders, List.count_append, List.count_append] at h1
     simp only
     omega
end Nd
section
variable {A : Ar} {top : Nd}
open Nd
theorem Abs.count_rem (hA : Abs A top) {i : Int} (h : (Nd.remove top i).2.2.2.2 = 0) (x : Int) : (Nd.remove top i).1.order.count x + (Nd.remove top i).2.1.order.count x = top.order.count x := by
 rcases hA.rem i with ⟨h0, _⟩ | ⟨p, k, hk, _, _, _, _, hf, e, _⟩
 ·exact absurd h h0
 ·rw [e]
  have h1 := count_with x (p.kids.take k ++ p.kids.drop (k + 1)) top p hf hA.od
  have h2 := Nd.count_rem x hk
  simp only
  omega
theorem Abs.rem_nodup (hA : Abs A top) {i : Int} (h : (Nd.remove top i).2.2.2.2 = 0) : (Nd.remove top i).1.order.Nodup ∧ (Nd.remove top i).2.1.order.Nodup ∧ (∀ x ∈ (Nd.remove top i).1.order, x ∉ (Nd.remove top i).2.1.order) ∧ (Nd.remove top i).2.1.id = i ∧ i ≠ 0 := by
 rcases hA.rem i with ⟨h0, _⟩ | ⟨p, k, hk, hi, hid, _, _, hf, e, o1, o2, o3⟩
 ·exact absurd h h0
 ·rw [e]
  exact ⟨o1, o2, o3, hid, hi⟩
theorem Abs.count_move (hA : Abs A top) {i p ix : Int} (h : (Nd.move top i p ix).2 = 0) (x : Int) : (Nd.move top i p ix).1.order.count x = top.order.count x := by
 rw [Nd.move] at h ⊢
 split at h
 ·rename_i h0; exact absurd h h0
 ·rename_i h0
  rw [if_neg h0]
  have h0' := Decidable.of_not_not h0
  have hc := hA.count_rem h0'
  obtain ⟨o1, o2, _⟩ := hA.rem_nodup h0'
  split at h
  ·exact absurd h (by show ¬ (31 : Int) = 0; decide)
  ·rename_i m hm
   split at h
   ·exact absurd h (by show ¬ (33 : Int) = 0; decide)
   ·rename_i hg
    rw [if_neg hg]
    split at h
    ·exact absurd h (by show ¬ (34 : Int) = 0; decide)
    ·rename_i hcy
     rw [if_neg hcy]
     have hp1 := count_find (i := p) (n := top).1 (by rw [hm]; rfl)
     have hp2 : ¬ 0 < (Nd.remove top i).2.1.order.count p := fun hh => hcy (count_find.2 hh)
     have hp3 := hc p
     obtain ⟨m', hm'⟩ := Option.isSome_iff_exists.1 (count_find.2 (show 0 < (Nd.remove top i).1.order.count p by omega))
     rw [hm'] at h ⊢
     simp only [Option.getD_some] at h ⊢
     split at h
     ·exact absurd h (by show ¬ (30 : Int) = 0; decide)
     ·rename_i hix
      rw [if_neg hix]
      split at h
      ·exact absurd h (by show ¬ (35 : Int) = 0; decide)
      ·rename_i hd
       rw [if_neg hd]
       have h1 := count_with x (m'.kids.take ix.toNat ++ (Nd.remove top i).2.1 :: m'.kids.drop ix.toNat) (Nd.remove top i).1 m' hm' o1
       have h2 := count_td x m'.kids ix.toNat
       rw [orders_app, orders, List.count_append, List.count_append] at h1
       have := hc x
       simp only
       omega
theorem Nd.count_wrap (ho : top.order.Nodup) {i p ix c : Int} (h : (Nd.wrap top i p ix c).2 = 0) (x : Int) : (Nd.wrap top i p ix c).1.order.count x = top.order.count x + (if i = x then 1 else 0) := by
 rw [Nd.wrap] at h ⊢
 split at h
 ·exact absurd h (by show ¬ (31 : Int) = 0; decide)
 ·rename_i m hm
  split at h
  ·exact absurd h (by show ¬ (33 : Int) = 0; decide)
  ·rename_i hg
   rw [if_neg hg]
   split at h
   ·exact absurd h (by show ¬ (30 : Int) = 0; decide)
   ·rename_i hx
    rw [if_neg hx]
    split at h
    ·rename_i hf
     exact absurd h hf
    ·rename_i hf
     rw [if_neg hf]
     split at h
     ·exact absurd h (by show ¬ (35 : Int) = 0; decide)
     ·rename_i hd
      rw [if_neg hd]
      have h1 := count_with x (m.kids.take ix.toNat ++ (mk i true ((m.kids.drop ix.toNat).take c.toNat) :: m.kids.drop (ix.toNat + c.toNat))) top m hm ho
      have h2 := count_td x m.kids ix.toNat
      have h3 := count_td x (m.kids.drop ix.toNat) c.toNat
      rw [List.drop_drop] at h3
      rw [orders_app, orders, order, List.count_append, List.count_append, List.count_cons] at h1
      simp only [beq_iff_eq] at h1
      simp only
      omega
theorem Abs.count_unwrap (hA : Abs A top) {i : Int} (h : (Nd.unwrap top i).2.2.2.2 = 0) (x : Int) : (Nd.unwrap top i).1.order.count x + (if i = x then 1 else 0) = top.order.count x := by
 rw [Nd.unwrap] at h ⊢
 split at h
 ·rename_i h0; exact absurd h h0
 ·rename_i h0
  rw [if_neg h0]
  split at h
  ·exact absurd h (by show ¬ (33 : Int) = 0; decide)
  ·rename_i hg
   rw [if_neg hg]
   rcases hA.rem i with ⟨h1, _⟩ | ⟨p, k, hk, _, hid, _, _, hf, e, _⟩
   ·exact absurd (Decidable.of_not_not h0) h1
   ·rw [e]
    simp only [hf, Option.getD_some, Int.toNat_natCast]
    have h1 := count_with x (p.kids.take k ++ ((p.kids[k]).kids ++ p.kids.drop (k + 1))) top p hf hA.od
    have h2 := Nd.count_rem x hk
    have h3 : (p.kids[k]).order.count x = (orders (p.kids[k]).kids).count x + (if i = x then 1 else 0) := by
     rw [order_eq, List.count_cons, hid]
     simp only [beq_iff_eq]
    rw [orders_app, orders_app, List.count_append, List.count_append] at h1
    rw [orders_app, List.count_append] at h2
    omega
end
end Go.Tr

namespace Go.Dc
open Go.Sl Go.Ls Go.Tr
theorem tk_order : ∀ (f : Nat), (∀ (l : List Ent) n r, tk f l = some (n, r) → l.map Ent.id = n.order ++ r.map Ent.id) ∧ ∀ (k : Nat) (l : List Ent) ns r, tks f k l = some (ns, r) → l.map Ent.id = Nd.orders ns ++ r.map Ent.id := by
 intro f
 induction f with
 | zero =>
  refine ⟨fun l n r h => ?_, fun k l ns r h => ?_⟩
  ·rw [tk] at h; cases h
  ·cases k with
   | zero => rw [tks] at h; cases h; rfl
   | succ k => rw [tks] at h; cases h
 | succ f ih =>
  refine ⟨fun l n r h => ?_, fun k l ns r h => ?_⟩
  ·cases l with
   | nil => rw [tk] at h; cases h
   | cons x l =>
    rw [tk] at h
    split at h
    ·cases h
    ·split at h
     ·cases h
     ·rename_i ks rest he
      cases h
      rw [List.map_cons, ih.2 _ _ _ _ he, Nd.order]; rfl
  ·cases k with
   | zero => rw [tks] at h; cases h; rfl
   | succ k =>
    rw [tks] at h
    split at h
    ·cases h
    ·rename_i n r1 he
     split at h
     ·cases h
     ·rename_i ns' r2 he2
      cases h
      rw [ih.1 _ _ _ he, ih.2 _ _ _ _ he2, Nd.orders, List.append_assoc]
theorem Tk_order {l : List Ent} {n : Nd} {r : List Ent} (h : Tk l = some (n, r)) : l.map Ent.id = n.order ++ r.map Ent.id := (tk_order _).1 _ _ _ h
theorem nodeOf_eq {l : List Ent} {n : Nd} (h : Tk l = some (n, [])) : nodeOf l = n := by
 rw [nodeOf, show tk (2 * l.length) l = some (n, []) from h]; rfl
theorem Tk_size {l : List Ent} {n : Nd} (h : Tk l = some (n, [])) : n.size = l.length := by
 have h1 := congrArg List.length (Tk_order h)
 simp only [List.length_map, List.map_nil, List.append_nil] at h1
 rw [h1, Nd.order_len]
/-! what is right is not long -/
theorem stopsCheck_lim {l : List Stp} (h : stopsCheck l = 0) : l.length ≤ 16 := by
 rw [stopsCheck] at h
 split at h
 ·rename_i hg
  have hf : ∀ (l : List Stp) (b : Option Stp), stopsGo false b l = false := fun l => by
   induction l with
   | nil => intro b; rfl
   | cons x l ih => intro b; rw [stopsGo, Bool.false_and]; exact ih _
  cases hd : decide (1 ≤ l.length ∧ l.length ≤ 16) with
  | true => exact (of_decide_eq_true hd).2
  | false => rw [hd, hf] at hg; cases hg
 ·exact absurd h (by decide)
theorem Pnt.check_lim {p : Pnt} (h : p.check = 0) : p.stops.length ≤ 16 := by
 rw [Pnt.check] at h
 split at h
 ·exact absurd h (by decide)
 split at h
 ·exact absurd h (by decide)
 split at h
 ·exact absurd h (by decide)
 rename_i h3
 split at h
 ·exact absurd h (by decide)
 split at h
 ·exact stopsCheck_lim h
 ·rename_i h5
  have : ¬ 0 < p.stops.length := fun e => h3 ⟨h5, .inr (.inr e)⟩
  omega
theorem dashCheck_lim {l : List Int} {ph : Int} (h : dashCheck l ph = 0) : l.length ≤ 8 := by
 rw [dashCheck] at h
 split at h
 ·rename_i h1; omega
 split at h
 ·exact absurd h (by decide)
 ·omega
theorem Sty.check_lim {s : Sty} (h : s.check = 0) : s.fill.stops.length ≤ 16 ∧ s.pen.stops.length ≤ 16 ∧ s.dash.length ≤ 8 := by
 rw [Sty.check] at h
 split at h
 ·rename_i h1; exact absurd h h1
 rename_i h1
 split at h
 ·rename_i h2; exact absurd h h2
 rename_i h2
 split at h
 ·exact absurd h (by decide)
 exact ⟨Pnt.check_lim (Decidable.of_not_not h1), Pnt.check_lim (Decidable.of_not_not h2), dashCheck_lim h⟩
theorem pathCheck_lim {l : List Sg} (h : pathCheck l = 0) : l.length ≤ 4096 := by
 rw [pathCheck] at h
 split at h
 ·exact absurd h (by decide)
 ·omega
theorem Atr.check_ok {a : Atr} {g : Bool} (h : a.check g = 0) : a.mtx.right ∧ a.sty.check = 0 ∧ pathCheck a.path = 0 := by
 rw [Atr.check] at h
 split at h
 ·exact absurd h (by decide)
 rename_i h1
 split at h
 ·rename_i h2; exact absurd h h2
 rename_i h2
 split at h
 ·rename_i h3; exact absurd h h3
 rename_i h3
 exact ⟨Decidable.of_not_not h1, Decidable.of_not_not h2, Decidable.of_not_not h3⟩
theorem Atr.check_lim {a : Atr} {g : Bool} (h : a.check g = 0) : a.lim := by
 obtain ⟨_, h1, h2⟩ := Atr.check_ok h
 obtain ⟨a1, a2, a3⟩ := Sty.check_lim h1
 have := pathCheck_lim h2
 exact ⟨by omega, by omega, by omega, by omega⟩
theorem putAll_some : ∀ (l : List Ent) (f : Int → Option Atr) (i : Int), (putAll f l i).isSome = true ↔ (f i).isSome = true ∨ i ∈ l.map Ent.id
 | [], f, i => by simp [putAll]
 | x :: l, f, i => by
  rw [putAll, putAll_some l, upAt, List.map_cons, List.mem_cons]
  by_cases h : i = x.id
  ·simp [h]
  ·simp [h]
theorem putAll_of : ∀ (l : List Ent) (f : Int → Option Atr) (i : Int) (a : Atr), putAll f l i = some a → f i = some a ∨ ∃ x ∈ l, x.id = i ∧ x.atr = a
 | [], f, i, a, h => .inl h
 | x :: l, f, i, a, h => by
  rw [putAll] at h
  rcases putAll_of l _ i a h with h | ⟨y, hy, h1, h2⟩
  ·rw [upAt] at h
   split at h
   ·rename_i hi
    cases h
    exact .inr ⟨x, List.mem_cons_self .., hi.symm, rfl⟩
   ·exact .inl h
  ·exact .inr ⟨y, List.mem_cons_of_mem _ hy, h1, h2⟩
theorem mem_count {l : List Int} {i : Int} : i ∈ l ↔ 0 < l.count i := List.count_pos_iff.symm
theorem nodup_count {l : List Int} (h : l.Nodup) (i : Int) : l.count i ≤ 1 := List.nodup_iff_count.1 h i
theorem dom_wrap {at_ : Int → Option Atr} {o o' : List Int} {j : Int} {a : Atr} (hdom : ∀ i, (at_ i).isSome = true ↔ i ≠ 0 ∧ i ∈ o) (h0 : 0 ∈ o) (hn : o'.Nodup) (hc : ∀ x, o'.count x = o.count x + (if j = x then 1 else 0)) : ∀ i, (upAt at_ j a i).isSome = true ↔ i ≠ 0 ∧ i ∈ o' := by
 intro i
 have h1 := hc i
 have h2 := nodup_count hn i
 rw [mem_count] at h0 ⊢
 rw [upAt]
 by_cases h : i = j
 ·subst h
  rw [if_pos rfl] at h1 ⊢
  refine ⟨fun _ => ⟨fun e => ?_, by omega⟩, fun _ => rfl⟩
  subst e
  omega
 ·rw [if_neg (fun e => h e.symm)] at h1
  rw [if_neg h, hdom i, mem_count]
  exact ⟨fun e => ⟨e.1, by have := e.2; omega⟩, fun e => ⟨e.1, by have := e.2; omega⟩⟩
theorem dom_add {at_ : Int → Option Atr} {o o' m : List Int} {l : List Ent} (hdom : ∀ i, (at_ i).isSome = true ↔ i ≠ 0 ∧ i ∈ o) (h0 : 0 ∈ o) (hn : o'.Nodup) (hm : l.map Ent.id = m) (hc : ∀ x, o'.count x = o.count x + m.count x) : ∀ i, (putAll at_ l i).isSome = true ↔ i ≠ 0 ∧ i ∈ o' := by
 intro i
 have h1 := hc i
 have h2 := nodup_count hn i
 rw [putAll_some, hm, hdom i]
 simp only [mem_count] at h0 ⊢
 constructor
 ·rintro (⟨a, b⟩ | b)
  ·exact ⟨a, by omega⟩
  ·refine ⟨fun e => ?_, by omega⟩
   subst e
   omega
 ·rintro ⟨a, b⟩
  rcases Nat.eq_zero_or_pos (m.count i) with h | h
  ·exact .inl ⟨a, by omega⟩
  ·exact .inr h
theorem mem0 {A : Ar} {top : Nd} (h : Abs A top) : 0 ∈ top.order := by
 have := Nd.id_mem top
 rwa [h.id0] at this
end Go.Dc
