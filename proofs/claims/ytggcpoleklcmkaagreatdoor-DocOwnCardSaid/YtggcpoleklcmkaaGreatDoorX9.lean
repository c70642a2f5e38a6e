/-
 Drawings, the walks: stops, dashes that are right.
-/
import Derived.Test.YtggcpoleklcmkaaGreatDoorX2
import Derived.Test.YtggcpoleklcmkaaGreatDoorX8
import Derived.Test.YtggcpoleklcmkaaGreatDoorX3
import Derived.Test.YtggcpoleklcmkaaGreatDoorX4
set_option linter.unusedVariables false
set_option linter.unusedSimpArgs false
set_option maxRecDepth 100000
set_option maxHeartbeats 8000000
namespace Go.Proofs.YtggcpoleklcmkaaGreatDoor
open Go.Sl Go.Ls Go.Dc
-- PICKB
attribute [local irreducible] WC WL WX WK WA WAK Val Ctr RunRes ResIs Rd At sl box pt Exit.then Exit.inBlock bodyPost Code.wp wpList
theorem stopsGo_snoc : ∀ (l : List Stp) (ok : Bool) (b : Option Stp) (s : Stp), stopsGo ok b (l ++ [s]) = (stopsGo ok b l && decide (s.fits (l.getLast?.or b)))
 | [], ok, b, s => by rw [List.nil_append, stopsGo, stopsGo, stopsGo]; rfl
 | x :: l, ok, b, s => by
  rw [List.cons_append, stopsGo, stopsGo, stopsGo_snoc l]
  congr 2
  cases l with
  | nil => simp
  | cons y l => simp [List.getLast?_cons]
theorem stops_ctr (l : List Stp) (v : Value) (I : Mem) (hv : LsAt Stp.rep I l v) : Ctr Tryz.prog 95 [v] I [] (Still I fun r => r = vi (stopsCheck l)) := by
 have hlb := hv.le
 obtain ⟨a1, c1, rfl⟩ := hv.sl
 refine Ctr.intro Tryz.func95 rfl rfl rfl fun E F => ?_
 by_cases h1 : 1 ≤ l.length
 case neg =>
  have h0 : l = [] := List.eq_nil_of_length_eq_zero (by omega)
  subst h0
  refine jS (jf rfl (jN (jc rfl (jm (jo rfl) (jm (Val.geq rfl rfl (decide_eq_false (by omega))) ?_)))))
  refine jb rfl (jH (jH (jH (jk rfl (jg rfl (jM (jB (jS (jc rfl (jm (jo rfl) (ja rfl (jM (WC.block (WC.loop (fun n ρ' I' L' => I' = I ∧ ρ' 3 = .bool false ∧ ρ' 15 = vi 0 ∧ ρ' 16 = vi 0 ∧ L' = [F]) 0 ⟨rfl, rfl, rfl, rfl, rfl⟩ ?_))))))))))))))
  rintro n ρ' I0 L' ⟨rfl, r3, r15, r16, rfl⟩
  rw [← upd_self r16, ← upd_self r15, ← upd_self r3]
  refine jS (jx rfl rfl (jM (jB (jE (WC.exit (WX.thenExit (WX.thenExit (WX.inHit (jA (jB (jS (jb rfl (jl rfl (jM (jF (jS (jf rfl (jM (jR (jU ?_))))))))))))))))))))
  exact jP [] (jr1 rfl (jtI rfl)) ⟨rfl, rfl, rfl⟩
 have hc : stopsCheck l = if stopsGo (decide ((l.length : Int) ≤ 16)) none l = true then 0 else 30 := by
  rw [stopsCheck]
  congr 3
  exact decide_eq_decide.2 ⟨fun h => by omega, fun h => by omega⟩
 rw [hc]
 clear hc
 refine jS (jf rfl (jN (jc rfl (jm (jo rfl) (jm (Val.geq rfl rfl (decide_eq_true (by omega))) ?_)))))
 refine jb rfl (jG (jc rfl (jG (jm (jo rfl) (jG (jm (Val.leq rfl rfl rfl) ?_))))))
 refine jk rfl (jg rfl (jM (jB (jS (jc rfl (jm (jo rfl) (ja rfl (jM (WC.block ?_)))))))))
 generalize decide ((l.length : Int) ≤ 16) = okb
 refine WC.loop (fun n ρ' I' L' => ∃ (k : Nat) (ok : Bool), n = l.length - k ∧ k ≤ l.length ∧ I' = I ∧ ρ' 0 = .slice a1 l.length c1 ∧ ρ' 3 = .bool ok ∧ ρ' 14 = .slice a1 l.length c1 ∧ ρ' 15 = vi l.length ∧ ρ' 16 = vi k ∧ L' = [F] ∧ ok = stopsGo okb none (l.take k))
  l.length ⟨0, okb, rfl, by omega, rfl, rfl, rfl, rfl, rfl, rfl, rfl, rfl⟩ ?_
 rintro n ρ' I0 L' ⟨k, ok, rfl, hk, rfl, r0, r3, r14, r15, r16, rfl, hok⟩
 refine ju5 r16 r15 r14 r3 r0 ?_
 by_cases hkn : k < l.length
 ·obtain ⟨b, off, cap', cs, he, ⟨rfl, hi⟩, hA⟩ := hv.get k hkn
  cases he
  have hsn : stopsGo okb none (l.take (k + 1)) = (ok && decide (Stp.fits ((l.take k).getLast?.or none) l[k])) := by
   rw [List.take_succ_eq_append_getElem hkn, stopsGo_snoc, ← hok]
  generalize hx : l[k] = x at *
  have hgo : ∀ ok' : Bool, ok' = (ok && decide (Stp.fits ((l.take k).getLast?.or none) x)) → ok' = stopsGo okb none (l.take (k + 1)) := fun ok' h => h.trans hsn.symm
  refine jS (jy rfl rfl (jM (jB (jF (jV (jA (jB (WC.block (jS (ja rfl (jm (jZ rfl rfl) (jm (Val.loadI rfl (by assumption) rfl) ?_))))))))))))
  refine WL.alloc rfl (fun _ => ?_)
  refine jW ?_
  refine jf rfl (WL.stA 1 rfl rfl rfl rfl ?_)
  refine jM ?_
  rename_i g5
  cases ok with
  | false =>
   refine j8 999 [1] rfl (jT 0 rfl (Val.moveB rfl) (jT 1 rfl (Val.moveB rfl) (jI 2 rfl (jI 3 rfl (jI 4 rfl (jT 5 rfl (Val.pick rfl) (jT 6 rfl (Val.moveB rfl) (jI 7 rfl (jI 8 rfl (jI 9 rfl (jT 10 rfl (Val.pick rfl) (jT 11 rfl (Val.moveB rfl) (jI 12 rfl (jI 13 rfl (jI 14 rfl (jT 15 rfl (Val.pick rfl) (jT 16 rfl (Val.moveB rfl) (jI 17 rfl (jI 18 rfl (jI 19 rfl (jY 20 rfl (jY 21 rfl (jY 22 rfl (jY 23 rfl (jY 24 rfl (jY 25 rfl (jY 26 rfl (jY 27 rfl (jY 28 rfl (jI 29 rfl (jT 30 rfl (Val.pick rfl) (jT 31 rfl (Val.assignB rfl) (j6 (WX.inNormal (jA (jD (jX rfl rfl (ja rfl (jC ?_)))))))))))))))))))))))))))))))))))))))
   exact WX.conv (fun w h => h.sub [0] rfl) (WX.thenK (WK.round (l.length - (k + 1)) (by omega) ⟨k + 1, false, rfl, by omega, rfl, rfl, rfl, rfl, rfl, rfl, rfl, hgo _ (by rw [Bool.false_and])⟩))
  | true =>
   by_cases p0 : 0 ≤ x.pos
   case neg =>
    refine j8 999 [1] rfl (jT 0 rfl (Val.moveB rfl) (jT 1 rfl (Val.moveB rfl) (jT 2 rfl (jn rfl) (jT 3 rfl (jp 0 rfl rfl rfl) (jT 4 rfl (Val.geq rfl rfl (decide_eq_false (by omega))) ?_)))))
    exact jT 5 rfl (Val.pick rfl) (jT 6 rfl (Val.moveB rfl) (jI 7 rfl (jI 8 rfl (jI 9 rfl (jT 10 rfl (Val.pick rfl) (jT 11 rfl (Val.moveB rfl) (jI 12 rfl (jI 13 rfl (jI 14 rfl (jT 15 rfl (Val.pick rfl) (jT 16 rfl (Val.moveB rfl) (jI 17 rfl (jI 18 rfl (jI 19 rfl (jY 20 rfl (jY 21 rfl (jY 22 rfl (jY 23 rfl (jY 24 rfl (jY 25 rfl (jY 26 rfl (jY 27 rfl (jY 28 rfl (jI 29 rfl (jT 30 rfl (Val.pick rfl) (jT 31 rfl (Val.assignB rfl) (j6 (WX.inNormal (jA (jD (jX rfl rfl (ja rfl (jC (WX.conv (fun w h => h.sub [0] rfl) (WX.thenK (WK.round (l.length - (k + 1)) (by omega) ⟨k + 1, false, rfl, by omega, rfl, rfl, rfl, rfl, rfl, rfl, rfl, hgo _ (by rw [Bool.true_and]; exact (decide_eq_false fun e => p0 e.1).symm)⟩))))))))))))))))))))))))))))))))))))
   by_cases p1 : x.pos ≤ 65536
   case neg =>
    refine j8 999 [1] rfl (jT 0 rfl (Val.moveB rfl) (jT 1 rfl (Val.moveB rfl) (jT 2 rfl (jn rfl) (jT 3 rfl (jp 0 rfl rfl rfl) (jT 4 rfl (Val.geq rfl rfl (decide_eq_true (by omega))) ?_)))))
    refine jT 5 rfl (Val.pick rfl) (jT 6 rfl (Val.moveB rfl) (jT 7 rfl (jn rfl) (jT 8 rfl (jp 0 rfl rfl rfl) (jT 9 rfl (Val.leq rfl rfl (decide_eq_false (by omega))) ?_))))
    exact jT 10 rfl (Val.pick rfl) (jT 11 rfl (Val.moveB rfl) (jI 12 rfl (jI 13 rfl (jI 14 rfl (jT 15 rfl (Val.pick rfl) (jT 16 rfl (Val.moveB rfl) (jI 17 rfl (jI 18 rfl (jI 19 rfl (jY 20 rfl (jY 21 rfl (jY 22 rfl (jY 23 rfl (jY 24 rfl (jY 25 rfl (jY 26 rfl (jY 27 rfl (jY 28 rfl (jI 29 rfl (jT 30 rfl (Val.pick rfl) (jT 31 rfl (Val.assignB rfl) (j6 (WX.inNormal (jA (jD (jX rfl rfl (ja rfl (jC (WX.conv (fun w h => h.sub [0] rfl) (WX.thenK (WK.round (l.length - (k + 1)) (by omega) ⟨k + 1, false, rfl, by omega, rfl, rfl, rfl, rfl, rfl, rfl, rfl, hgo _ (by rw [Bool.true_and]; exact (decide_eq_false fun e => p1 e.2.1).symm)⟩)))))))))))))))))))))))))))))))
   by_cases k0 : k = 0
   ·subst k0
    refine j8 999 [1] rfl (jT 0 rfl (Val.moveB rfl) (jT 1 rfl (Val.moveB rfl) (jT 2 rfl (jn rfl) (jT 3 rfl (jp 0 rfl rfl rfl) (jT 4 rfl (Val.geq rfl rfl (decide_eq_true (by omega))) ?_)))))
    refine jT 5 rfl (Val.pick rfl) (jT 6 rfl (Val.moveB rfl) (jT 7 rfl (jn rfl) (jT 8 rfl (jp 0 rfl rfl rfl) (jT 9 rfl (Val.leq rfl rfl (decide_eq_true (by omega))) ?_))))
    refine jT 10 rfl (Val.pick rfl) (jT 11 rfl (Val.moveB rfl) (jT 12 rfl (jn rfl) (jT 13 rfl (jt 0 rfl rfl rfl) (j5 14 rfl (jG ?_)))))
    refine WL.callE rfl rfl (colRight_ctr x.col _) rfl (fun h => ?_) (fun h => ?_)
    ·skip
     refine jC (j7 [1] rfl (jT 15 rfl (Val.pick rfl) (jT 16 rfl (Val.moveB rfl) (jT 17 rfl (Val.moveI rfl) (jT 18 rfl (Val.eql rfl rfl (beq_iff_eq.2 (by omega))) ?_)))))
     exact jT 19 rfl (Val.moveB rfl) (jI 20 rfl (jI 21 rfl (jI 22 rfl (jI 23 rfl (jI 24 rfl (jI 25 rfl (jI 26 rfl (jI 27 rfl (jI 28 rfl (jT 29 rfl (Val.pick rfl) (jT 30 rfl (Val.pick rfl) (jT 31 rfl (Val.assignB rfl) (j6 (WX.inNormal (jA (jD (jX rfl rfl (ja rfl (jC (WX.conv (fun w h => h.sub [0] rfl) (WX.thenK (WK.round (l.length - (0 + 1)) (by omega) ⟨0 + 1, true, rfl, by omega, rfl, rfl, rfl, rfl, rfl, rfl, rfl, hgo _ (by rw [Bool.true_and]; exact (decide_eq_true ⟨p0, p1, h, fun q e => by cases e⟩).symm)⟩))))))))))))))))))))))
    ·skip
     exact jC (j7 [1] rfl (jT 15 rfl (Val.pick rfl) (jT 16 rfl (Val.moveB rfl) (jI 17 rfl (jI 18 rfl (jI 19 rfl (jY 20 rfl (jY 21 rfl (jY 22 rfl (jY 23 rfl (jY 24 rfl (jY 25 rfl (jY 26 rfl (jY 27 rfl (jY 28 rfl (jI 29 rfl (jT 30 rfl (Val.pick rfl) (jT 31 rfl (Val.assignB rfl) (j6 (WX.inNormal (jA (jD (jX rfl rfl (ja rfl (jC (WX.conv (fun w h => h.sub [0] rfl) (WX.thenK (WK.round (l.length - (0 + 1)) (by omega) ⟨0 + 1, false, rfl, by omega, rfl, rfl, rfl, rfl, rfl, rfl, rfl, hgo _ (by rw [Bool.true_and]; exact (decide_eq_false fun e => h e.2.2.1).symm)⟩))))))))))))))))))))))))))))
   ·obtain ⟨j, rfl⟩ : ∃ j, k = j + 1 := ⟨k - 1, by omega⟩
    obtain ⟨b2, off2, cap2, cs2, he2, ⟨rfl, hi2⟩, hA2⟩ := hv.get j (by omega)
    cases he2
    have hlast : (l.take (j + 1)).getLast? = some l[j] := by rw [List.take_succ_eq_append_getElem (by omega)]; exact List.getLast?_concat
    rw [hlast] at hgo
    generalize l[j] = y at *
    by_cases p2 : y.pos ≤ x.pos
    ·skip
     refine j8 999 [1] rfl (jT 0 rfl (Val.moveB rfl) (jT 1 rfl (Val.moveB rfl) (jT 2 rfl (jn rfl) (jT 3 rfl (jp 0 rfl rfl rfl) (jT 4 rfl (Val.geq rfl rfl (decide_eq_true (by omega))) ?_)))))
     refine jT 5 rfl (Val.pick rfl) (jT 6 rfl (Val.moveB rfl) (jT 7 rfl (jn rfl) (jT 8 rfl (jp 0 rfl rfl rfl) (jT 9 rfl (Val.leq rfl rfl (decide_eq_true (by omega))) ?_))))
     refine jT 10 rfl (Val.pick rfl) (jT 11 rfl (Val.moveB rfl) (jT 12 rfl (jn rfl) (jT 13 rfl (jt 0 rfl rfl rfl) (j5 14 rfl (jG ?_)))))
     refine WL.callE rfl rfl (colRight_ctr x.col _) rfl (fun h => ?_) (fun h => ?_)
     ·skip
      refine jC (j7 [1] rfl (jT 15 rfl (Val.pick rfl) (jT 16 rfl (Val.moveB rfl) (jT 17 rfl (Val.moveI rfl) (jT 18 rfl (Val.eql rfl rfl (beq_eq_false_iff_ne.2 (by omega))) ?_)))))
      refine jT 19 rfl (Val.moveB rfl) (jT 20 rfl (Val.moveS rfl) (jT 21 rfl (Val.moveI rfl) (jT 22 rfl (Val.sub (z := (j : Int)) rfl rfl (by rw [wrap_i64 (by omega) (by omega)]; omega)) ?_)))
      refine jT 23 rfl (jZ rfl rfl) (jT 24 rfl (jn rfl) (jT 25 rfl (Val.loadS rfl (Rd.imm (At.zero (by assumption) rfl))) ?_))
      refine jT 26 rfl (jn rfl) (jT 27 rfl (jp 0 rfl rfl rfl) (jT 28 rfl (Val.leq rfl rfl (decide_eq_true (by omega))) ?_))
      exact jT 29 rfl (Val.pick rfl) (jT 30 rfl (Val.pick rfl) (jT 31 rfl (Val.assignB rfl) (j6 (WX.inNormal (jA (jD (jX rfl rfl (ja rfl (jC (WX.conv (fun w h => h.sub [0] rfl) (WX.thenK (WK.round (l.length - (j + 1 + 1)) (by omega) ⟨j + 1 + 1, true, rfl, by omega, rfl, rfl, rfl, rfl, rfl, rfl, rfl, hgo _ (by rw [Bool.true_and]; exact (decide_eq_true ⟨p0, p1, h, fun q e => by cases e; exact p2⟩).symm)⟩))))))))))))
     ·skip
      exact jC (j7 [1] rfl (jT 15 rfl (Val.pick rfl) (jT 16 rfl (Val.moveB rfl) (jI 17 rfl (jI 18 rfl (jI 19 rfl (jY 20 rfl (jY 21 rfl (jY 22 rfl (jY 23 rfl (jY 24 rfl (jY 25 rfl (jY 26 rfl (jY 27 rfl (jY 28 rfl (jI 29 rfl (jT 30 rfl (Val.pick rfl) (jT 31 rfl (Val.assignB rfl) (j6 (WX.inNormal (jA (jD (jX rfl rfl (ja rfl (jC (WX.conv (fun w h => h.sub [0] rfl) (WX.thenK (WK.round (l.length - (j + 1 + 1)) (by omega) ⟨j + 1 + 1, false, rfl, by omega, rfl, rfl, rfl, rfl, rfl, rfl, rfl, hgo _ (by rw [Bool.true_and]; exact (decide_eq_false fun e => h e.2.2.1).symm)⟩))))))))))))))))))))))))))))
    ·skip
     refine j8 999 [1] rfl (jT 0 rfl (Val.moveB rfl) (jT 1 rfl (Val.moveB rfl) (jT 2 rfl (jn rfl) (jT 3 rfl (jp 0 rfl rfl rfl) (jT 4 rfl (Val.geq rfl rfl (decide_eq_true (by omega))) ?_)))))
     refine jT 5 rfl (Val.pick rfl) (jT 6 rfl (Val.moveB rfl) (jT 7 rfl (jn rfl) (jT 8 rfl (jp 0 rfl rfl rfl) (jT 9 rfl (Val.leq rfl rfl (decide_eq_true (by omega))) ?_))))
     refine jT 10 rfl (Val.pick rfl) (jT 11 rfl (Val.moveB rfl) (jT 12 rfl (jn rfl) (jT 13 rfl (jt 0 rfl rfl rfl) (j5 14 rfl (jG ?_)))))
     refine WL.callE rfl rfl (colRight_ctr x.col _) rfl (fun h => ?_) (fun h => ?_)
     ·skip
      refine jC (j7 [1] rfl (jT 15 rfl (Val.pick rfl) (jT 16 rfl (Val.moveB rfl) (jT 17 rfl (Val.moveI rfl) (jT 18 rfl (Val.eql rfl rfl (beq_eq_false_iff_ne.2 (by omega))) ?_)))))
      refine jT 19 rfl (Val.moveB rfl) (jT 20 rfl (Val.moveS rfl) (jT 21 rfl (Val.moveI rfl) (jT 22 rfl (Val.sub (z := (j : Int)) rfl rfl (by rw [wrap_i64 (by omega) (by omega)]; omega)) ?_)))
      refine jT 23 rfl (jZ rfl rfl) (jT 24 rfl (jn rfl) (jT 25 rfl (Val.loadS rfl (Rd.imm (At.zero (by assumption) rfl))) ?_))
      refine jT 26 rfl (jn rfl) (jT 27 rfl (jp 0 rfl rfl rfl) (jT 28 rfl (Val.leq rfl rfl (decide_eq_false (by omega))) ?_))
      exact jT 29 rfl (Val.pick rfl) (jT 30 rfl (Val.pick rfl) (jT 31 rfl (Val.assignB rfl) (j6 (WX.inNormal (jA (jD (jX rfl rfl (ja rfl (jC (WX.conv (fun w h => h.sub [0] rfl) (WX.thenK (WK.round (l.length - (j + 1 + 1)) (by omega) ⟨j + 1 + 1, false, rfl, by omega, rfl, rfl, rfl, rfl, rfl, rfl, rfl, hgo _ (by rw [Bool.true_and]; exact (decide_eq_false fun e => p2 (e.2.2.2 y rfl)).symm)⟩))))))))))))
     ·skip
      exact jC (j7 [1] rfl (jT 15 rfl (Val.pick rfl) (jT 16 rfl (Val.moveB rfl) (jI 17 rfl (jI 18 rfl (jI 19 rfl (jY 20 rfl (jY 21 rfl (jY 22 rfl (jY 23 rfl (jY 24 rfl (jY 25 rfl (jY 26 rfl (jY 27 rfl (jY 28 rfl (jI 29 rfl (jT 30 rfl (Val.pick rfl) (jT 31 rfl (Val.assignB rfl) (j6 (WX.inNormal (jA (jD (jX rfl rfl (ja rfl (jC (WX.conv (fun w h => h.sub [0] rfl) (WX.thenK (WK.round (l.length - (j + 1 + 1)) (by omega) ⟨j + 1 + 1, false, rfl, by omega, rfl, rfl, rfl, rfl, rfl, rfl, rfl, hgo _ (by rw [Bool.true_and]; exact (decide_eq_false fun e => h e.2.2.1).symm)⟩))))))))))))))))))))))))))))
 ·have : k = l.length := by omega
  subst this
  rw [List.take_length] at hok
  rw [← hok]
  cases ok with
  | false =>
   refine jS (jx rfl rfl (jM (jB (jE (WC.exit (WX.thenExit (WX.thenExit (WX.inHit (jA (jB (jS (jb rfl (jl rfl (jM (jF (jS (jf rfl (jM (jR (jU ?_))))))))))))))))))))
   exact jP [] (jr1 rfl (jtI rfl)) ⟨rfl, rfl, rfl⟩
  | true =>
   refine jS (jx rfl rfl (jM (jB (jE (WC.exit (WX.thenExit (WX.thenExit (WX.inHit (jA (jB (jS (jb rfl (jl rfl (jM (jE (jV (jK (jf rfl (jM (jR ?_))))))))))))))))))))
   exact jP [] (jr1 rfl (jtI rfl)) ⟨rfl, rfl, rfl⟩
theorem isum_app : ∀ (a b : List Int), isum (a ++ b) = isum a + isum b
 | [], b => by simp [isum]
 | x :: a, b => by rw [List.cons_append, isum, isum, isum_app a b]; omega
theorem sum_ctr (l : List Int) (ph : Int) (v : Value) (I : Mem) (hv : LsAt Int.rep I l v) (hl : l.length ≤ 8) (hd : ∀ n ∈ l, dashPart n) : Ctr Tryz.prog 96 [.agg #[v, vi ph]] I [] (Still I fun r => r = vi (isum l)) := by
 obtain ⟨a1, c1, rfl⟩ := hv.sl
 refine Ctr.intro Tryz.func96 rfl rfl rfl fun E F => ?_
 refine jS (WL.boxA rfl rfl (fun _ => ?_))
 refine jW ?_
 refine jf rfl (jN (jf rfl (jM (jB (jS (jm (jn rfl) (jm (jp 1 rfl rfl rfl) (jm (jo rfl) (ja rfl (jM (WC.block ?_)))))))))))
 rename_i g
 refine WC.loop (fun n ρ' I' L' => ∃ k : Nat, n = l.length - k ∧ k ≤ l.length ∧ I' = I ∧ ρ' 3 = vi (isum (l.take k)) ∧ ρ' 7 = .slice a1 l.length c1 ∧ ρ' 8 = vi l.length ∧ ρ' 9 = vi k ∧ L' = [F, box g 33 [.slice a1 l.length c1, vi ph]] ∧ 0 ≤ isum (l.take k) ∧ isum (l.take k) ≤ 1048576 * (k : Int))
  l.length ⟨0, rfl, by omega, rfl, rfl, rfl, rfl, rfl, rfl, by simp [isum], by simp [isum]⟩ ?_
 rintro n ρ' I0 L' ⟨k, rfl, hk, rfl, r3, r7, r8, r9, rfl, s1, s2⟩
 refine ju4 r9 r8 r7 r3 ?_
 by_cases hkn : k < l.length
 ·obtain ⟨b, off, cap', cs, he, ⟨rfl, hi⟩, hA⟩ := hv.get k hkn
  cases he
  have hsn : isum (l.take (k + 1)) = isum (l.take k) + l[k] := by rw [List.take_succ_eq_append_getElem hkn, isum_app]; simp [isum]
  obtain ⟨d1, d2⟩ := hd l[k] (List.getElem_mem hkn)
  refine jS (jy rfl rfl (jM (jB (jF (jV (jA (jB (WC.block (jS (jm (jZ rfl rfl) (jm (Val.loadS rfl (Rd.imm (by assumption))) ?_)))))))))))
  exact jf rfl (jM (jD (ja rfl (ja rfl (jX rfl rfl (jf rfl (jC (WX.inNormal (jA (jD (jX rfl rfl (ja rfl (jC (WX.thenK (WK.round (l.length - (k + 1)) (by omega) ⟨k + 1, rfl, by omega, rfl, by rw [hsn]; rfl, rfl, rfl, rfl, rfl, by omega, by omega⟩)))))))))))))))
 ·have : k = l.length := by omega
  subst this
  refine jS (jx rfl rfl (jM (jB (jE (WC.exit (WX.thenExit (WX.thenExit (WX.inHit (jK (ja rfl (jf rfl (jM (jR ?_)))))))))))))
  refine jP [] (jr1 rfl (jtI rfl)) ?_
  rw [List.take_length]
  exact ⟨rfl, rfl, rfl⟩
theorem dash_ctr (l : List Int) (ph : Int) (v : Value) (I : Mem) (hv : LsAt Int.rep I l v) : Ctr Tryz.prog 55 [.agg #[v, vi ph]] I [] (Still I fun r => r = vi (dashCheck l ph)) := by
 obtain ⟨a1, c1, rfl⟩ := hv.sl
 refine Ctr.intro Tryz.func55 rfl rfl rfl fun E F => ?_
 by_cases h0 : l.length = 0
 ·by_cases hp : ph = 0
  ·skip
   refine jS (WL.boxA rfl rfl (fun _ => ?_))
   refine jW ?_
   refine jf rfl (jM (jB (jS (jm (jn rfl) (jm (jp 1 rfl rfl rfl) (jm (jo rfl) (jw rfl rfl (jb rfl (jG (jm (jn rfl) (jG (jm (jp 1 rfl rfl rfl) (jG (jw rfl rfl (jk rfl (jM (jF (jS (jf rfl (jM (jR (jU ?_))))))))))))))))))))))
   exact jP [] (jr1 rfl (jtI rfl)) ⟨rfl, rfl, by rw [dashCheck, if_pos ⟨h0, hp⟩]⟩
  ·skip
   refine jS (WL.boxA rfl rfl (fun _ => ?_))
   refine jW ?_
   refine jf rfl (jM (jB (jS (jm (jn rfl) (jm (jp 1 rfl rfl rfl) (jm (jo rfl) (jw rfl rfl (jb rfl (jG (jm (jn rfl) (jG (jm (jp 1 rfl rfl rfl) (jG (jv rfl rfl (jk rfl (jM (jE (jV (jA (jB (jS (jm (jn rfl) (jm (jp 1 rfl rfl rfl) (jm (jo rfl) (jw rfl rfl (jb rfl (jH (jH (jH (jH (jk rfl (jb rfl (jH (jH (jH (jH (jH (jk rfl (jM ?_)))))))))))))))))))))))))))))))))))))))
   refine jF (jS (jf rfl (jM (jR (jU ?_)))))
   exact jP [] (jr1 rfl (jtI rfl)) ⟨rfl, rfl, by rw [dashCheck, if_neg (fun e => hp e.2), if_pos (.inl h0)]⟩
 by_cases h8 : 8 < l.length
 ·skip
  refine jS (WL.boxA rfl rfl (fun _ => ?_))
  refine jW ?_
  refine jf rfl (jM (jB (jS (jm (jn rfl) (jm (jp 1 rfl rfl rfl) (jm (jo rfl) (jv rfl rfl (jb rfl (jH (jH (jH (jk rfl (jM (jE (jV (jA (jB (jS (jm (jn rfl) (jm (jp 1 rfl rfl rfl) (jm (jo rfl) (jv rfl rfl (jb rfl (jG (jm (jn rfl) (jG (jm (jp 1 rfl rfl rfl) (jG (jm (jo rfl) (jG (jO rfl rfl (jk rfl (jb rfl (jH (jH (jH (jH (jH (jk rfl ?_)))))))))))))))))))))))))))))))))))))))
  refine jM (jF (jS (jf rfl (jM (jR (jU ?_))))))
  exact jP [] (jr1 rfl (jtI rfl)) ⟨rfl, rfl, by rw [dashCheck, if_neg (fun e => h0 e.1), if_pos (.inr (.inl h8))]⟩
 refine jS (WL.boxA rfl rfl (fun _ => ?_))
 refine jW ?_
 refine jf rfl (jM (jB (jS (jm (jn rfl) (jm (jp 1 rfl rfl rfl) (jm (jo rfl) (jv rfl rfl (jb rfl (jH (jH (jH (jk rfl (jM (jE (jV (jA (jB (jS (jm (jn rfl) (jm (jp 1 rfl rfl rfl) (jm (jo rfl) (jv rfl rfl (jb rfl (jG (jm (jn rfl) (jG (jm (jp 1 rfl rfl rfl) (jG (jm (jo rfl) (jG (jL rfl rfl (jk rfl (jb rfl (jG (jm (jn rfl) (jG (jm (jp 1 rfl rfl rfl) (jG (jm (jo rfl) ?_)))))))))))))))))))))))))))))))))))))))
 refine jG ?_
 rename_i g
 refine jm (Val.rem rfl rfl (by decide) (show Int.tmod ((l.length : Nat) : Int) 2 = ((l.length % 2 : Nat) : Int) from rfl)) ?_
 by_cases hm : l.length % 2 = 0
 case neg =>
  refine jG (jJ rfl rfl (jk rfl (jM (jF (jS (jf rfl (jM (jR (jU ?_)))))))))
  exact jP [] (jr1 rfl (jtI rfl)) ⟨rfl, rfl, by rw [dashCheck, if_neg (fun e => h0 e.1), if_pos (.inr (.inr hm))]⟩
 have hc : dashCheck l ph = if ¬ ∀ n ∈ l, dashPart n then 30 else if ph < 0 ∨ isum l ≤ ph then 30 else 0 := by
  rw [dashCheck, if_neg (fun e => h0 e.1), if_neg (by omega)]
 rw [hc]
 clear hc
 refine jG (jz rfl rfl (jk rfl (jM (jE (jV (jA (jB (jS (jm (jn rfl) (jm (jp 1 rfl rfl rfl) (jm (jo rfl) (ja rfl (jM (WC.block ?_))))))))))))))
 refine WC.loop (fun n ρ' I' L' => ∃ k : Nat, n = l.length - k ∧ k ≤ l.length ∧ I' = I ∧ ρ' 1 = ptr g ∧ ρ' 32 = .slice a1 l.length c1 ∧ ρ' 33 = vi l.length ∧ ρ' 34 = vi k ∧ L' = [F, box g 33 [.slice a1 l.length c1, vi ph]] ∧ ∀ n ∈ l.take k, dashPart n)
  l.length ⟨0, rfl, by omega, rfl, rfl, rfl, rfl, rfl, rfl, fun x hx => by simp at hx⟩ ?_
 rintro n ρ' I0 L' ⟨k, rfl, hk, rfl, r1, r32, r33, r34, rfl, hall⟩
 refine ju4 r34 r33 r32 r1 ?_
 by_cases hkn : k < l.length
 ·obtain ⟨b, off, cap', cs, he, ⟨rfl, hi⟩, hA⟩ := hv.get k hkn
  cases he
  by_cases hd : dashPart l[k]
  ·have hd' : 1 ≤ l[k] ∧ l[k] ≤ 1048576 := hd
   have hsn : ∀ n ∈ l.take (k + 1), dashPart n := by
    rw [List.take_succ_eq_append_getElem hkn]
    intro n hn
    rcases List.mem_append.1 hn with hn | hn
    ·exact hall n hn
    ·rw [List.mem_singleton.1 hn]; exact hd
   generalize l[k] = x at *
   refine jS (jy rfl rfl (jM (jB (jF (jV (jA (jB (WC.block (jS (jm (jZ rfl rfl) (jm (Val.loadS rfl (Rd.imm (by assumption))) ?_)))))))))))
   exact jf rfl (jN (ja rfl (jx rfl rfl (jb rfl (jG (ja rfl (jG (jL rfl rfl (jk rfl (jM (jE (jV (WX.inNormal (jA (jD (jX rfl rfl (ja rfl (jC (WX.thenK (WK.round (l.length - (k + 1)) (by omega) ⟨k + 1, rfl, by omega, rfl, rfl, rfl, rfl, rfl, rfl, hsn⟩))))))))))))))))))))
  ·have hd' : ¬ (1 ≤ l[k] ∧ l[k] ≤ 1048576) := hd
   rw [if_pos (fun e => hd (e _ (List.getElem_mem hkn)))]
   generalize l[k] = x at *
   refine jS (jy rfl rfl (jM (jB (jF (jV (jA (jB (WC.block (jS (jm (jZ rfl rfl) (jm (Val.loadS rfl (Rd.imm (by assumption))) ?_)))))))))))
   refine jf rfl (jN (ja rfl ?_))
   refine WL.ltI rfl rfl rfl (fun h => ?_) (fun h => ?_)
   refine jb rfl (jH (jH (jk rfl (jM (jF (jS (jf rfl (jM (jR (WX.inRet (jU (jU (WX.inRet (jU ?_))))))))))))))
   rotate_left
   refine jb rfl (jG (ja rfl (jG (jO rfl rfl (jk rfl (jM (jF (jS (jf rfl (jM (jR (WX.inRet (jU (jU (WX.inRet (jU ?_))))))))))))))))
   rotate_left
   all_goals
    refine jP [] (jr1 rfl (jtI rfl)) ?_
   all_goals exact ⟨rfl, rfl, rfl⟩
 ·have : k = l.length := by omega
  subst this
  rw [List.take_length] at hall
  rw [if_neg (fun e => e hall)]
  refine jS (jx rfl rfl (jM (jB (jE (WC.exit (WX.thenExit (WX.thenExit (WX.inHit (jA (jB (jB ?_)))))))))))
  by_cases hp : ph < 0
  ·rw [if_pos (.inl hp)]
   refine j8 999 [1] rfl (jT 0 rfl (jn rfl) (jT 1 rfl (jp 0 rfl rfl rfl) (jT 2 rfl (Val.lss rfl rfl (decide_eq_true (by omega))) ?_)))
   refine jT 3 rfl (Val.moveB rfl) (jI 4 rfl (jI 5 rfl (jI 6 rfl (jI 7 rfl (jI 8 rfl (jT 9 rfl (Val.pick rfl) (j6 (jA (jF (jS (jf rfl (jM (jR (jU ?_))))))))))))))
   exact jP [] (jr1 rfl (jtI rfl)) ⟨rfl, rfl, rfl⟩
  ·skip
   refine j8 999 [1] rfl (jT 0 rfl (jn rfl) (jT 1 rfl (jp 0 rfl rfl rfl) (jT 2 rfl (Val.lss rfl rfl (decide_eq_false (by omega))) ?_)))
   refine jT 3 rfl (Val.moveB rfl) (jT 4 rfl (jn rfl) (jT 5 rfl (jp 0 rfl rfl rfl) (jT 6 rfl (jt 0 rfl rfl rfl) (j5 7 rfl (jG (WL.callS rfl rfl (sum_ctr l ph _ _ hv (by omega) hall) rfl ?_))))))
   rintro _ rfl
   refine jC (j7 [1] rfl ?_)
   by_cases hq : isum l ≤ ph
   ·rw [if_pos (.inr hq)]
    refine jT 8 rfl (Val.geq rfl rfl (decide_eq_true (by omega))) ?_
    refine jT 9 rfl (Val.pick rfl) (j6 (jA (jF (jS (jf rfl (jM (jR (jU ?_))))))))
    exact jP [] (jr1 rfl (jtI rfl)) ⟨rfl, rfl, rfl⟩
   ·rw [if_neg (by omega)]
    refine jT 8 rfl (Val.geq rfl rfl (decide_eq_false (by omega))) ?_
    refine jT 9 rfl (Val.pick rfl) (j6 (jA (jE (jV (jK (jf rfl (jM (jR ?_))))))))
    exact jP [] (jr1 rfl (jtI rfl)) ⟨rfl, rfl, rfl⟩
theorem ptz (p : Pt) : p = Pt.z ↔ p.cs = [vi 0, vi 0] := ⟨fun h => by rw [h], fun h => Pt.inj h⟩
theorem colz (c : Col) : c = Col.z ↔ c.cs = [.int .u8 0, .int .u8 0, .int .u8 0, .int .u8 0] := ⟨fun h => by rw [h]; rfl, fun h => Col.inj (h.trans rfl)⟩
theorem pnt_ctr (p : Pnt) (t : Value) (I : Mem) (hp : p.at_ I t) : Ctr Tryz.prog 54 [.agg (p.cs t).toArray] I [] (Still I fun r => r = vi p.check) := by
 have hst := hp.stops
 obtain ⟨a1, c1, rfl⟩ := hp.sl
 clear hp
 obtain ⟨kd, cl, fr, to_, st⟩ := p
 dsimp only at hst
 dsimp only [Pnt.cs]
 refine Ctr.intro Tryz.func54 rfl rfl rfl fun E F => ?_
 by_cases k0 : kd < 0
 ·skip
  refine jS (WL.boxA rfl rfl (fun _ => ?_))
  refine jW ?_
  refine jf rfl (jN (jm (jn rfl) (jm (jp 1 rfl rfl rfl) (jv rfl rfl (jb rfl (jG (jm (jn rfl) (jG (jm (jp 1 rfl rfl rfl) (jG (jv rfl rfl (jk rfl (jg rfl (jM (jB (WC.block (jS (jm (jn rfl) (jm (jp 1 rfl rfl rfl) (jy rfl rfl (jb rfl (jH (jH (jH (jk rfl (jg rfl (jM (jF (jS (jf rfl (jM (jR (WX.inRet (jU ?_))))))))))))))))))))))))))))))))))
  exact jP [] (jr1 rfl (jtI rfl)) ⟨rfl, rfl, by rw [Pnt.check, if_pos (.inl k0)]⟩
 by_cases k3 : 3 < kd
 ·skip
  refine jS (WL.boxA rfl rfl (fun _ => ?_))
  refine jW ?_
  refine jf rfl (jN (jm (jn rfl) (jm (jp 1 rfl rfl rfl) (jv rfl rfl (jb rfl (jG (jm (jn rfl) (jG (jm (jp 1 rfl rfl rfl) (jG (jv rfl rfl (jk rfl (jg rfl (jM (jB (WC.block (jS (jm (jn rfl) (jm (jp 1 rfl rfl rfl) (jx rfl rfl (jb rfl (jG (jm (jn rfl) (jG (jm (jp 1 rfl rfl rfl) (jG (jO rfl rfl (jk rfl (jg rfl (jM (jF (jS (jf rfl (jM (jR (WX.inRet (jU ?_)))))))))))))))))))))))))))))))))))))
  exact jP [] (jr1 rfl (jtI rfl)) ⟨rfl, rfl, by rw [Pnt.check, if_pos (.inr k3)]⟩
 have hc : (Pnt.mk kd cl fr to_ st).check = if ¬ cl.right ∨ (kd ≠ 1 ∧ cl ≠ Col.z) then 30
   else if ¬ (kd = 2 ∨ kd = 3) ∧ (fr ≠ Pt.z ∨ to_ ≠ Pt.z ∨ 0 < st.length) then 30
   else if (kd = 2 ∨ kd = 3) ∧ (¬ fr.near ∨ ¬ to_.near ∨ fr = to_) then 30
   else if (kd = 2 ∨ kd = 3) then stopsCheck st else 0 := by rw [Pnt.check, if_neg (by show ¬ (kd < 0 ∨ 3 < kd); omega)]; rfl
 rw [hc]
 clear hc
 have hk : kd = 0 ∨ kd = 1 ∨ kd = 2 ∨ kd = 3 := by omega
 rcases hk with rfl | rfl | rfl | rfl
 ·skip
  refine jS (WL.boxA rfl rfl (fun _ => ?_))
  refine jW ?_
  refine jf rfl (jN (jm (jn rfl) (jm (jp 1 rfl rfl rfl) (jv rfl rfl (jb rfl (jG (jm (jn rfl) (jG (jm (jp 1 rfl rfl rfl) (jG (jv rfl rfl (jk rfl (jg rfl (jM (jB (WC.block (jS (jm (jn rfl) (jm (jp 1 rfl rfl rfl) (jx rfl rfl (jb rfl (jG (jm (jn rfl) (jG (jm (jp 1 rfl rfl rfl) (jG (jL rfl rfl (jk rfl (jg rfl (jM (jE (jS (jm (jn rfl) (jm (jt 1 rfl rfl rfl) ?_))))))))))))))))))))))))))))))))))
  refine WL.callE rfl rfl (colRight_ctr cl _) rfl (fun hr => ?_) (fun hr => ?_)
  case refine_2 =>
   refine jl rfl (jb rfl (jH (jH (jH (jH (WL.gU rfl rfl rfl ?_))))))
   refine WL.gU rfl rfl rfl ?_
   refine WL.gU rfl rfl rfl ?_
   refine WL.gU rfl rfl rfl ?_
   refine jH (jk rfl (jg rfl (jM (jF (jS (jf rfl (jM (jR (WX.inRet (jU ?_))))))))))
   exact jP [] (jr1 rfl (jtI rfl)) ⟨rfl, rfl, by rw [if_pos (.inl hr)]⟩
  by_cases hz : cl = Col.z
  case neg =>
   have hz' : cl.cs ≠ [.int .u8 0, .int .u8 0, .int .u8 0, .int .u8 0] := fun e => hz ((colz cl).2 e)
   refine jl rfl (jb rfl (jG (jm (jn rfl) (jG (jm (jp 1 rfl rfl rfl) (jG (jJ rfl rfl (jG (jb rfl (jG (jm (jn rfl) (jG (jm (jt 1 rfl rfl rfl) (jG (jm (Val.build0) ?_)))))))))))))))
   refine jG (jm (Val.neqD rfl rfl rfl rfl (by assumption)) ?_)
   refine jG (jk rfl (jk rfl (jg rfl (jM (jF (jS (jf rfl (jM (jR (WX.inRet (jU ?_)))))))))))
   exact jP [] (jr1 rfl (jtI rfl)) ⟨rfl, rfl, by rw [if_pos (.inr ⟨by decide, hz⟩)]⟩
  subst hz
  rw [if_neg (fun e => e.elim (fun e => e hr) fun e => e.2 rfl)]
  by_cases hfr : fr = Pt.z
  case neg =>
   have h' : fr.cs ≠ [vi 0, vi 0] := fun e => hfr ((ptz fr).2 e)
   refine jl rfl (jb rfl (jG (jm (jn rfl) (jG (jm (jp 1 rfl rfl rfl) (jG (jJ rfl rfl (jG (jb rfl (jG (jm (jn rfl) (jG (jm (jt 1 rfl rfl rfl) (jG (jm (Val.build0) ?_)))))))))))))))
   refine jG (jm (Val.neqSame rfl rfl rfl) ?_)
   refine jG (jk rfl (jk rfl (jg rfl (jM (jE (jS (jb rfl (jl rfl (jb rfl (jG (jm (jn rfl) (jG (jm (jt 1 rfl rfl rfl) (jG (jm (Val.build0) ?_)))))))))))))))
   refine jG (jm (Val.neqD rfl rfl rfl rfl (by assumption)) ?_)
   refine jG (jb rfl (jH (jH (jH (jH (jG (jk rfl (jG (jb rfl (jH (jH (jH (jH (jG (jk rfl (jk rfl (jg rfl (jM (jF (jS (jf rfl (jM (jR (WX.inRet (jU ?_)))))))))))))))))))))))))
   exact jP [] (jr1 rfl (jtI rfl)) ⟨rfl, rfl, by rw [if_pos ⟨by decide, .inl hfr⟩]⟩
  subst hfr
  by_cases hto_ : to_ = Pt.z
  case neg =>
   have h' : to_.cs ≠ [vi 0, vi 0] := fun e => hto_ ((ptz to_).2 e)
   refine jl rfl (jb rfl (jG (jm (jn rfl) (jG (jm (jp 1 rfl rfl rfl) (jG (jJ rfl rfl (jG (jb rfl (jG (jm (jn rfl) (jG (jm (jt 1 rfl rfl rfl) (jG (jm (Val.build0) ?_)))))))))))))))
   refine jG (jm (Val.neqSame rfl rfl rfl) ?_)
   refine jG (jk rfl (jk rfl (jg rfl (jM (jE (jS (jb rfl (jl rfl (jb rfl (jG (jm (jn rfl) (jG (jm (jt 1 rfl rfl rfl) (jG (jm (Val.build0) ?_)))))))))))))))
   refine jG (jm (Val.neqSame rfl rfl rfl) ?_)
   refine jG (jb rfl (jG (jm (jn rfl) (jG (jm (jt 1 rfl rfl rfl) (jG (jm (Val.build0) ?_)))))))
   refine jG (jm (Val.neqD rfl rfl rfl rfl (by assumption)) ?_)
   refine jG (jk rfl (jG (jb rfl (jH (jH (jH (jH (jG (jk rfl (jk rfl (jg rfl (jM (jF (jS (jf rfl (jM (jR (WX.inRet (jU ?_)))))))))))))))))))
   exact jP [] (jr1 rfl (jtI rfl)) ⟨rfl, rfl, by rw [if_pos ⟨by decide, .inr (.inl hto_)⟩]⟩
  subst hto_
  by_cases hl : 0 < st.length
  case pos =>
   refine jl rfl (jb rfl (jG (jm (jn rfl) (jG (jm (jp 1 rfl rfl rfl) (jG (jJ rfl rfl (jG (jb rfl (jG (jm (jn rfl) (jG (jm (jt 1 rfl rfl rfl) (jG (jm (Val.build0) ?_)))))))))))))))
   refine jG (jm (Val.neqSame rfl rfl rfl) ?_)
   refine jG (jk rfl (jk rfl (jg rfl (jM (jE (jS (jb rfl (jl rfl (jb rfl (jG (jm (jn rfl) (jG (jm (jt 1 rfl rfl rfl) (jG (jm (Val.build0) ?_)))))))))))))))
   refine jG (jm (Val.neqSame rfl rfl rfl) ?_)
   refine jG (jb rfl (jG (jm (jn rfl) (jG (jm (jt 1 rfl rfl rfl) (jG (jm (Val.build0) ?_)))))))
   refine jG (jm (Val.neqSame rfl rfl rfl) ?_)
   refine jG (jk rfl (jG (jb rfl (jG (jm (jn rfl) (jG (jm (jp 1 rfl rfl rfl) (jG (jm (jo rfl) (jG (jO rfl rfl (jG (jk rfl (jk rfl (jg rfl (jM (jF (jS (jf rfl (jM (jR (WX.inRet (jU ?_)))))))))))))))))))))))
   exact jP [] (jr1 rfl (jtI rfl)) ⟨rfl, rfl, by rw [if_pos ⟨by decide, .inr (.inr hl)⟩]⟩
  rw [if_neg (fun e => e.2.elim (fun e => e rfl) fun e => e.elim (fun e => e rfl) hl), if_neg (fun e => absurd e.1 (by decide)), if_neg (by decide)]
  refine jl rfl (jb rfl (jG (jm (jn rfl) (jG (jm (jp 1 rfl rfl rfl) (jG (jJ rfl rfl (jG (jb rfl (jG (jm (jn rfl) (jG (jm (jt 1 rfl rfl rfl) (jG (jm (Val.build0) ?_)))))))))))))))
  refine jG (jm (Val.neqSame rfl rfl rfl) ?_)
  refine jG (jk rfl (jk rfl (jg rfl (jM (jE (jS (jb rfl (jl rfl (jb rfl (jG (jm (jn rfl) (jG (jm (jt 1 rfl rfl rfl) (jG (jm (Val.build0) ?_)))))))))))))))
  refine jG (jm (Val.neqSame rfl rfl rfl) ?_)
  refine jG (jb rfl (jG (jm (jn rfl) (jG (jm (jt 1 rfl rfl rfl) (jG (jm (Val.build0) ?_)))))))
  refine jG (jm (Val.neqSame rfl rfl rfl) ?_)
  refine jG (jk rfl (jG (jb rfl (jG (jm (jn rfl) (jG (jm (jp 1 rfl rfl rfl) (jG (jm (jo rfl) (jG (jL rfl rfl (jG (jk rfl (jk rfl (jg rfl (jM (jE (jS (jb rfl (jb rfl (jH (jH (jH (jH (jH (WL.gU rfl rfl rfl ?_))))))))))))))))))))))))))
  refine WL.gU rfl rfl rfl ?_
  refine WL.gU rfl rfl rfl ?_
  refine WL.gU rfl rfl rfl ?_
  refine jH (jH (WL.gU rfl rfl rfl ?_))
  refine WL.gU rfl rfl rfl ?_
  refine WL.gU rfl rfl rfl ?_
  refine WL.gU rfl rfl rfl ?_
  refine WL.gU rfl rfl rfl ?_
  refine jH (jk rfl (jg rfl (jM (jE (jS (jb rfl (jg rfl (jM (jE (jV (WX.inNormal (jK (jf rfl (jM (jR ?_)))))))))))))))
  exact jP [] (jr1 rfl (jtI rfl)) ⟨rfl, rfl, rfl⟩
 ·skip
  refine jS (WL.boxA rfl rfl (fun _ => ?_))
  refine jW ?_
  refine jf rfl (jN (jm (jn rfl) (jm (jp 1 rfl rfl rfl) (jv rfl rfl (jb rfl (jG (jm (jn rfl) (jG (jm (jp 1 rfl rfl rfl) (jG (jv rfl rfl (jk rfl (jg rfl (jM (jB (WC.block (jS (jm (jn rfl) (jm (jp 1 rfl rfl rfl) (jx rfl rfl (jb rfl (jG (jm (jn rfl) (jG (jm (jp 1 rfl rfl rfl) (jG (jL rfl rfl (jk rfl (jg rfl (jM (jE (jS (jm (jn rfl) (jm (jt 1 rfl rfl rfl) ?_))))))))))))))))))))))))))))))))))
  refine WL.callE rfl rfl (colRight_ctr cl _) rfl (fun hr => ?_) (fun hr => ?_)
  case refine_2 =>
   refine jl rfl (jb rfl (jH (jH (jH (jH (WL.gU rfl rfl rfl ?_))))))
   refine WL.gU rfl rfl rfl ?_
   refine WL.gU rfl rfl rfl ?_
   refine WL.gU rfl rfl rfl ?_
   refine jH (jk rfl (jg rfl (jM (jF (jS (jf rfl (jM (jR (WX.inRet (jU ?_))))))))))
   exact jP [] (jr1 rfl (jtI rfl)) ⟨rfl, rfl, by rw [if_pos (.inl hr)]⟩
  rw [if_neg (fun e => e.elim (fun e => e hr) fun e => e.1 rfl)]
  by_cases hfr : fr = Pt.z
  case neg =>
   have h' : fr.cs ≠ [vi 0, vi 0] := fun e => hfr ((ptz fr).2 e)
   refine jl rfl (jb rfl (jG (jm (jn rfl) (jG (jm (jp 1 rfl rfl rfl) (jG (jz rfl rfl (jG (jb rfl (jH (jH (jH (jH (jG (jk rfl (jk rfl (jg rfl (jM (jE (jS (jb rfl (jl rfl (jb rfl (jG (jm (jn rfl) (jG (jm (jt 1 rfl rfl rfl) (jG (jm (Val.build0) ?_)))))))))))))))))))))))))))))
   refine jG (jm (Val.neqD rfl rfl rfl rfl (by assumption)) ?_)
   refine jG (jb rfl (jH (jH (jH (jH (jG (jk rfl (jG (jb rfl (jH (jH (jH (jH (jG (jk rfl (jk rfl (jg rfl (jM (jF (jS (jf rfl (jM (jR (WX.inRet (jU ?_)))))))))))))))))))))))))
   exact jP [] (jr1 rfl (jtI rfl)) ⟨rfl, rfl, by rw [if_pos ⟨by decide, .inl hfr⟩]⟩
  subst hfr
  by_cases hto_ : to_ = Pt.z
  case neg =>
   have h' : to_.cs ≠ [vi 0, vi 0] := fun e => hto_ ((ptz to_).2 e)
   refine jl rfl (jb rfl (jG (jm (jn rfl) (jG (jm (jp 1 rfl rfl rfl) (jG (jz rfl rfl (jG (jb rfl (jH (jH (jH (jH (jG (jk rfl (jk rfl (jg rfl (jM (jE (jS (jb rfl (jl rfl (jb rfl (jG (jm (jn rfl) (jG (jm (jt 1 rfl rfl rfl) (jG (jm (Val.build0) ?_)))))))))))))))))))))))))))))
   refine jG (jm (Val.neqSame rfl rfl rfl) ?_)
   refine jG (jb rfl (jG (jm (jn rfl) (jG (jm (jt 1 rfl rfl rfl) (jG (jm (Val.build0) ?_)))))))
   refine jG (jm (Val.neqD rfl rfl rfl rfl (by assumption)) ?_)
   refine jG (jk rfl (jG (jb rfl (jH (jH (jH (jH (jG (jk rfl (jk rfl (jg rfl (jM (jF (jS (jf rfl (jM (jR (WX.inRet (jU ?_)))))))))))))))))))
   exact jP [] (jr1 rfl (jtI rfl)) ⟨rfl, rfl, by rw [if_pos ⟨by decide, .inr (.inl hto_)⟩]⟩
  subst hto_
  by_cases hl : 0 < st.length
  case pos =>
   refine jl rfl (jb rfl (jG (jm (jn rfl) (jG (jm (jp 1 rfl rfl rfl) (jG (jz rfl rfl (jG (jb rfl (jH (jH (jH (jH (jG (jk rfl (jk rfl (jg rfl (jM (jE (jS (jb rfl (jl rfl (jb rfl (jG (jm (jn rfl) (jG (jm (jt 1 rfl rfl rfl) (jG (jm (Val.build0) ?_)))))))))))))))))))))))))))))
   refine jG (jm (Val.neqSame rfl rfl rfl) ?_)
   refine jG (jb rfl (jG (jm (jn rfl) (jG (jm (jt 1 rfl rfl rfl) (jG (jm (Val.build0) ?_)))))))
   refine jG (jm (Val.neqSame rfl rfl rfl) ?_)
   refine jG (jk rfl (jG (jb rfl (jG (jm (jn rfl) (jG (jm (jp 1 rfl rfl rfl) (jG (jm (jo rfl) (jG (jO rfl rfl (jG (jk rfl (jk rfl (jg rfl (jM (jF (jS (jf rfl (jM (jR (WX.inRet (jU ?_)))))))))))))))))))))))
   exact jP [] (jr1 rfl (jtI rfl)) ⟨rfl, rfl, by rw [if_pos ⟨by decide, .inr (.inr hl)⟩]⟩
  rw [if_neg (fun e => e.2.elim (fun e => e rfl) fun e => e.elim (fun e => e rfl) hl), if_neg (fun e => absurd e.1 (by decide)), if_neg (by decide)]
  refine jl rfl (jb rfl (jG (jm (jn rfl) (jG (jm (jp 1 rfl rfl rfl) (jG (jz rfl rfl (jG (jb rfl (jH (jH (jH (jH (jG (jk rfl (jk rfl (jg rfl (jM (jE (jS (jb rfl (jl rfl (jb rfl (jG (jm (jn rfl) (jG (jm (jt 1 rfl rfl rfl) (jG (jm (Val.build0) ?_)))))))))))))))))))))))))))))
  refine jG (jm (Val.neqSame rfl rfl rfl) ?_)
  refine jG (jb rfl (jG (jm (jn rfl) (jG (jm (jt 1 rfl rfl rfl) (jG (jm (Val.build0) ?_)))))))
  refine jG (jm (Val.neqSame rfl rfl rfl) ?_)
  refine jG (jk rfl (jG (jb rfl (jG (jm (jn rfl) (jG (jm (jp 1 rfl rfl rfl) (jG (jm (jo rfl) (jG (jL rfl rfl (jG (jk rfl (jk rfl (jg rfl (jM (jE (jS (jb rfl (jb rfl (jH (jH (jH (jH (jH (WL.gU rfl rfl rfl ?_))))))))))))))))))))))))))
  refine WL.gU rfl rfl rfl ?_
  refine WL.gU rfl rfl rfl ?_
  refine WL.gU rfl rfl rfl ?_
  refine jH (jH (WL.gU rfl rfl rfl ?_))
  refine WL.gU rfl rfl rfl ?_
  refine WL.gU rfl rfl rfl ?_
  refine WL.gU rfl rfl rfl ?_
  refine WL.gU rfl rfl rfl ?_
  refine jH (jk rfl (jg rfl (jM (jE (jS (jb rfl (jg rfl (jM (jE (jV (WX.inNormal (jK (jf rfl (jM (jR ?_)))))))))))))))
  exact jP [] (jr1 rfl (jtI rfl)) ⟨rfl, rfl, rfl⟩
 ·skip
  refine jS (WL.boxA rfl rfl (fun _ => ?_))
  refine jW ?_
  refine jf rfl (jN (jm (jn rfl) (jm (jp 1 rfl rfl rfl) (jw rfl rfl (jb rfl (jH (jH (jH (jk rfl (jg rfl (jM (jB (WC.block (jS (jm (jn rfl) (jm (jp 1 rfl rfl rfl) (jx rfl rfl (jb rfl (jG (jm (jn rfl) (jG (jm (jp 1 rfl rfl rfl) (jG (jL rfl rfl (jk rfl (jg rfl (jM (jE (jS (jm (jn rfl) (jm (jt 1 rfl rfl rfl) ?_)))))))))))))))))))))))))))))))
  refine WL.callE rfl rfl (colRight_ctr cl _) rfl (fun hr => ?_) (fun hr => ?_)
  case refine_2 =>
   refine jl rfl (jb rfl (jH (jH (jH (jH (WL.gU rfl rfl rfl ?_))))))
   refine WL.gU rfl rfl rfl ?_
   refine WL.gU rfl rfl rfl ?_
   refine WL.gU rfl rfl rfl ?_
   refine jH (jk rfl (jg rfl (jM (jF (jS (jf rfl (jM (jR (WX.inRet (jU ?_))))))))))
   exact jP [] (jr1 rfl (jtI rfl)) ⟨rfl, rfl, by rw [if_pos (.inl hr)]⟩
  by_cases hz : cl = Col.z
  case neg =>
   have hz' : cl.cs ≠ [.int .u8 0, .int .u8 0, .int .u8 0, .int .u8 0] := fun e => hz ((colz cl).2 e)
   refine jl rfl (jb rfl (jG (jm (jn rfl) (jG (jm (jp 1 rfl rfl rfl) (jG (jJ rfl rfl (jG (jb rfl (jG (jm (jn rfl) (jG (jm (jt 1 rfl rfl rfl) (jG (jm (Val.build0) ?_)))))))))))))))
   refine jG (jm (Val.neqD rfl rfl rfl rfl (by assumption)) ?_)
   refine jG (jk rfl (jk rfl (jg rfl (jM (jF (jS (jf rfl (jM (jR (WX.inRet (jU ?_)))))))))))
   exact jP [] (jr1 rfl (jtI rfl)) ⟨rfl, rfl, by rw [if_pos (.inr ⟨by decide, hz⟩)]⟩
  subst hz
  rw [if_neg (fun e => e.elim (fun e => e hr) fun e => e.2 rfl)]
  rw [if_neg (fun e => e.1 (by decide))]
  refine jl rfl (jb rfl (jG (jm (jn rfl) (jG (jm (jp 1 rfl rfl rfl) (jG (jJ rfl rfl (jG (jb rfl (jG (jm (jn rfl) (jG (jm (jt 1 rfl rfl rfl) (jG (jm (Val.build0) ?_)))))))))))))))
  refine jG (jm (Val.neqSame rfl rfl rfl) ?_)
  refine jG (jk rfl (jk rfl (jg rfl (jM (jE (jS (jb rfl (jl rfl (jb rfl (jH (jH (jH (jH (jH (WL.gU rfl rfl rfl ?_)))))))))))))))
  refine WL.gU rfl rfl rfl ?_
  refine WL.gU rfl rfl rfl ?_
  refine WL.gU rfl rfl rfl ?_
  refine jH (jH (WL.gU rfl rfl rfl ?_))
  refine WL.gU rfl rfl rfl ?_
  refine WL.gU rfl rfl rfl ?_
  refine WL.gU rfl rfl rfl ?_
  refine jH (jk rfl (jg rfl (jM (jE (jS (jb rfl (jb rfl (jG (jm (jn rfl) (jG (jm (jt 1 rfl rfl rfl) (jG ?_))))))))))))
  refine WL.callE rfl rfl (near_ctr fr _) rfl (fun hf => ?_) (fun hf => ?_)
  case refine_2 =>
   refine jG (jl rfl (jG (jb rfl (jH (jH (jH (jH (jG (jk rfl (jG (jb rfl (jH (jH (jH (jH (jH (jG (jk rfl (jk rfl (jg rfl (jM (jF (jS (jf rfl (jM (jR (WX.inRet (jU ?_))))))))))))))))))))))))))))
   exact jP [] (jr1 rfl (jtI rfl)) ⟨rfl, rfl, by rw [if_pos ⟨by decide, .inl hf⟩]⟩
  refine jG (jl rfl (jG (jb rfl (jG (jm (jn rfl) (jG (jm (jt 1 rfl rfl rfl) (jG ?_))))))))
  refine WL.callE rfl rfl (near_ctr to_ _) rfl (fun ht => ?_) (fun ht => ?_)
  case refine_2 =>
   refine jG (jl rfl (jG (jk rfl (jG (jb rfl (jH (jH (jH (jH (jH (jG (jk rfl (jk rfl (jg rfl (jM (jF (jS (jf rfl (jM (jR (WX.inRet (jU ?_))))))))))))))))))))))
   exact jP [] (jr1 rfl (jtI rfl)) ⟨rfl, rfl, by rw [if_pos ⟨by decide, .inr (.inl ht)⟩]⟩
  by_cases he : fr = to_
  case pos =>
   subst he
   refine jG (jl rfl (jG (jk rfl (jG (jb rfl (jG (jm (jn rfl) (jG (jm (jt 1 rfl rfl rfl) (jG (jm (jn rfl) (jG (jm (jt 1 rfl rfl rfl) (jG (jm (Val.eqlSame rfl rfl rfl) ?_)))))))))))))))
   refine jG (jk rfl (jk rfl (jg rfl (jM (jF (jS (jf rfl (jM (jR (WX.inRet (jU ?_)))))))))))
   exact jP [] (jr1 rfl (jtI rfl)) ⟨rfl, rfl, by rw [if_pos ⟨by decide, .inr (.inr rfl)⟩]⟩
  have he' : fr.cs ≠ to_.cs := fun e => he (Pt.inj e)
  rw [if_neg (fun e => e.2.elim (fun e => e hf) fun e => e.elim (fun e => e ht) he), if_pos (by decide)]
  refine jG (jl rfl (jG (jk rfl (jG (jb rfl (jG (jm (jn rfl) (jG (jm (jt 1 rfl rfl rfl) (jG (jm (jn rfl) (jG (jm (jt 1 rfl rfl rfl) (jG (jm (Val.eqlD rfl rfl rfl rfl (by assumption)) ?_)))))))))))))))
  refine jG (jk rfl (jk rfl (jg rfl (jM (jE (jS (jb rfl (jg rfl (jM (jF (jS (jm (jn rfl) (jm (jp 1 rfl rfl rfl) (WL.callS rfl rfl (stops_ctr st _ _ hst) rfl ?_))))))))))))))
  rintro _ rfl
  refine jf rfl (jM (jR (WX.inRet (jU ?_))))
  exact jP [] (jr1 rfl (jtI rfl)) ⟨rfl, rfl, rfl⟩
 ·skip
  refine jS (WL.boxA rfl rfl (fun _ => ?_))
  refine jW ?_
  refine jf rfl (jN (jm (jn rfl) (jm (jp 1 rfl rfl rfl) (jv rfl rfl (jb rfl (jG (jm (jn rfl) (jG (jm (jp 1 rfl rfl rfl) (jG (jw rfl rfl (jk rfl (jg rfl (jM (jB (WC.block (jS (jm (jn rfl) (jm (jp 1 rfl rfl rfl) (jx rfl rfl (jb rfl (jG (jm (jn rfl) (jG (jm (jp 1 rfl rfl rfl) (jG (jL rfl rfl (jk rfl (jg rfl (jM (jE (jS (jm (jn rfl) (jm (jt 1 rfl rfl rfl) ?_))))))))))))))))))))))))))))))))))
  refine WL.callE rfl rfl (colRight_ctr cl _) rfl (fun hr => ?_) (fun hr => ?_)
  case refine_2 =>
   refine jl rfl (jb rfl (jH (jH (jH (jH (WL.gU rfl rfl rfl ?_))))))
   refine WL.gU rfl rfl rfl ?_
   refine WL.gU rfl rfl rfl ?_
   refine WL.gU rfl rfl rfl ?_
   refine jH (jk rfl (jg rfl (jM (jF (jS (jf rfl (jM (jR (WX.inRet (jU ?_))))))))))
   exact jP [] (jr1 rfl (jtI rfl)) ⟨rfl, rfl, by rw [if_pos (.inl hr)]⟩
  by_cases hz : cl = Col.z
  case neg =>
   have hz' : cl.cs ≠ [.int .u8 0, .int .u8 0, .int .u8 0, .int .u8 0] := fun e => hz ((colz cl).2 e)
   refine jl rfl (jb rfl (jG (jm (jn rfl) (jG (jm (jp 1 rfl rfl rfl) (jG (jJ rfl rfl (jG (jb rfl (jG (jm (jn rfl) (jG (jm (jt 1 rfl rfl rfl) (jG (jm (Val.build0) ?_)))))))))))))))
   refine jG (jm (Val.neqD rfl rfl rfl rfl (by assumption)) ?_)
   refine jG (jk rfl (jk rfl (jg rfl (jM (jF (jS (jf rfl (jM (jR (WX.inRet (jU ?_)))))))))))
   exact jP [] (jr1 rfl (jtI rfl)) ⟨rfl, rfl, by rw [if_pos (.inr ⟨by decide, hz⟩)]⟩
  subst hz
  rw [if_neg (fun e => e.elim (fun e => e hr) fun e => e.2 rfl)]
  rw [if_neg (fun e => e.1 (by decide))]
  refine jl rfl (jb rfl (jG (jm (jn rfl) (jG (jm (jp 1 rfl rfl rfl) (jG (jJ rfl rfl (jG (jb rfl (jG (jm (jn rfl) (jG (jm (jt 1 rfl rfl rfl) (jG (jm (Val.build0) ?_)))))))))))))))
  refine jG (jm (Val.neqSame rfl rfl rfl) ?_)
  refine jG (jk rfl (jk rfl (jg rfl (jM (jE (jS (jb rfl (jl rfl (jb rfl (jH (jH (jH (jH (jH (WL.gU rfl rfl rfl ?_)))))))))))))))
  refine WL.gU rfl rfl rfl ?_
  refine WL.gU rfl rfl rfl ?_
  refine WL.gU rfl rfl rfl ?_
  refine jH (jH (WL.gU rfl rfl rfl ?_))
  refine WL.gU rfl rfl rfl ?_
  refine WL.gU rfl rfl rfl ?_
  refine WL.gU rfl rfl rfl ?_
  refine jH (jk rfl (jg rfl (jM (jE (jS (jb rfl (jb rfl (jG (jm (jn rfl) (jG (jm (jt 1 rfl rfl rfl) (jG ?_))))))))))))
  refine WL.callE rfl rfl (near_ctr fr _) rfl (fun hf => ?_) (fun hf => ?_)
  case refine_2 =>
   refine jG (jl rfl (jG (jb rfl (jH (jH (jH (jH (jG (jk rfl (jG (jb rfl (jH (jH (jH (jH (jH (jG (jk rfl (jk rfl (jg rfl (jM (jF (jS (jf rfl (jM (jR (WX.inRet (jU ?_))))))))))))))))))))))))))))
   exact jP [] (jr1 rfl (jtI rfl)) ⟨rfl, rfl, by rw [if_pos ⟨by decide, .inl hf⟩]⟩
  refine jG (jl rfl (jG (jb rfl (jG (jm (jn rfl) (jG (jm (jt 1 rfl rfl rfl) (jG ?_))))))))
  refine WL.callE rfl rfl (near_ctr to_ _) rfl (fun ht => ?_) (fun ht => ?_)
  case refine_2 =>
   refine jG (jl rfl (jG (jk rfl (jG (jb rfl (jH (jH (jH (jH (jH (jG (jk rfl (jk rfl (jg rfl (jM (jF (jS (jf rfl (jM (jR (WX.inRet (jU ?_))))))))))))))))))))))
   exact jP [] (jr1 rfl (jtI rfl)) ⟨rfl, rfl, by rw [if_pos ⟨by decide, .inr (.inl ht)⟩]⟩
  by_cases he : fr = to_
  case pos =>
   subst he
   refine jG (jl rfl (jG (jk rfl (jG (jb rfl (jG (jm (jn rfl) (jG (jm (jt 1 rfl rfl rfl) (jG (jm (jn rfl) (jG (jm (jt 1 rfl rfl rfl) (jG (jm (Val.eqlSame rfl rfl rfl) ?_)))))))))))))))
   refine jG (jk rfl (jk rfl (jg rfl (jM (jF (jS (jf rfl (jM (jR (WX.inRet (jU ?_)))))))))))
   exact jP [] (jr1 rfl (jtI rfl)) ⟨rfl, rfl, by rw [if_pos ⟨by decide, .inr (.inr rfl)⟩]⟩
  have he' : fr.cs ≠ to_.cs := fun e => he (Pt.inj e)
  rw [if_neg (fun e => e.2.elim (fun e => e hf) fun e => e.elim (fun e => e ht) he), if_pos (by decide)]
  refine jG (jl rfl (jG (jk rfl (jG (jb rfl (jG (jm (jn rfl) (jG (jm (jt 1 rfl rfl rfl) (jG (jm (jn rfl) (jG (jm (jt 1 rfl rfl rfl) (jG (jm (Val.eqlD rfl rfl rfl rfl (by assumption)) ?_)))))))))))))))
  refine jG (jk rfl (jk rfl (jg rfl (jM (jE (jS (jb rfl (jg rfl (jM (jF (jS (jm (jn rfl) (jm (jp 1 rfl rfl rfl) (WL.callS rfl rfl (stops_ctr st _ _ hst) rfl ?_))))))))))))))
  rintro _ rfl
  refine jf rfl (jM (jR (WX.inRet (jU ?_))))
  exact jP [] (jr1 rfl (jtI rfl)) ⟨rfl, rfl, rfl⟩
theorem sty_ctr (s : Sty) (t u d : Value) (I : Mem) (hs : s.at_ I t u d) : Ctr Tryz.prog 17 [.agg (s.cs t u d).toArray] I [] (Still I fun r => r = vi s.check) := by
 have hf := hs.fill
 have hp := hs.pen
 have hd := hs.dash
 obtain ⟨a1, c1, a2, c2, a3, c3, rfl, rfl, rfl⟩ := hs.sl
 clear hs
 refine Ctr.intro Tryz.func17 rfl rfl rfl fun E F => ?_
 refine jS (WL.boxA rfl rfl (fun _ => ?_))
 refine jW ?_
 refine jf rfl (jM (jB (jS (jm (jn rfl) (jm (jt 1 rfl rfl rfl) (jm (jn rfl) (jm (jt 1 rfl rfl rfl) (WL.buildSlice (by with_unfolding_all exact rfl) rfl (by with_unfolding_all exact rfl) rfl (fun _ => ?_)))))))))
 refine jW ?_
 refine jm (jo rfl) (ja rfl (jM (WC.block ?_)))
 rename_i g1 g2
 refine WC.loop (fun n ρ' I' L' => ∃ k : Nat, n = 2 - k ∧ k ≤ 2 ∧ I' = I ∧ ρ' 1 = ptr g1 ∧ ρ' 12 = .slice (some ⟨g2, 0, none⟩) 2 2 ∧ ρ' 13 = vi 2 ∧ ρ' 14 = vi k ∧ L' = [F, box g1 35 (s.cs (Value.slice a1 s.fill.stops.length c1) (Value.slice a2 s.pen.stops.length c2) (Value.slice a3 s.dash.length c3)), box g2 30 [vi s.fill.kind, byt s.fill.col.r, byt s.fill.col.g, byt s.fill.col.b, byt s.fill.col.a, vi s.fill.frm.x, vi s.fill.frm.y, vi s.fill.to.x, vi s.fill.to.y, Value.slice a1 s.fill.stops.length c1, vi s.pen.kind, byt s.pen.col.r, byt s.pen.col.g, byt s.pen.col.b, byt s.pen.col.a, vi s.pen.frm.x, vi s.pen.frm.y, vi s.pen.to.x, vi s.pen.to.y, Value.slice a2 s.pen.stops.length c2]] ∧ (0 < k → s.fill.check = 0) ∧ (1 < k → s.pen.check = 0))
  2 ⟨0, rfl, by omega, rfl, rfl, rfl, rfl, rfl, rfl, fun h => by omega, fun h => by omega⟩ ?_
 rintro n ρ' I0 L' ⟨k, rfl, hk, rfl, r1, r12, r13, r14, rfl, q0, q1⟩
 refine ju4 r14 r13 r12 r1 ?_
 have hcase : k = 0 ∨ k = 1 ∨ k = 2 := by omega
 rcases hcase with rfl | rfl | rfl
 ·skip
  refine jS (jy rfl rfl (jM (jB (jF (jV (jA (jB (WC.block (jS (jm (jZ rfl rfl) (jm (Val.loadO 2 rfl rfl rfl) ?_)))))))))))
  refine WL.alloc rfl (fun _ => ?_)
  refine jW ?_
  refine WL.store 3 rfl rfl rfl ?_
  refine WL.nSet ?_
  refine jN (jm (Val.loadO 3 rfl rfl rfl) ?_)
  refine WL.callS rfl rfl (pnt_ctr s.fill _ _ hf) rfl ?_
  rintro _ rfl
  by_cases hq : s.fill.check = 0
  ·skip
   exact jf rfl (jN (ja rfl (jz rfl rfl (jM (jE (jV (WX.inNormal (jA (jD (jX rfl rfl (ja rfl (jC (WX.conv (fun w h => h.sub [0, 0, 0] rfl) (WX.thenK (WK.round 1 (by omega) ⟨1, rfl, by omega, rfl, rfl, rfl, rfl, rfl, rfl, fun _ => hq, fun h => by omega⟩)))))))))))))))
  ·skip
   refine jf rfl (jN (ja rfl (jJ rfl rfl (jM (jF (jS (ja rfl (jf rfl (jM (jR (WX.inRet (jU (jU (WX.inRet (jU ?_)))))))))))))))
   exact jP [] (jr1 rfl (jtI rfl)) ⟨rfl, rfl, by rw [Sty.check, if_pos hq]⟩
 ·have q0' := q0 (by omega)
  refine jS (jy rfl rfl (jM (jB (jF (jV (jA (jB (WC.block (jS (jm (jZ rfl rfl) (jm (Val.loadO 2 rfl rfl rfl) ?_)))))))))))
  refine WL.alloc rfl (fun _ => ?_)
  refine jW ?_
  refine WL.store 3 rfl rfl rfl ?_
  refine WL.nSet ?_
  refine jN (jm (Val.loadO 3 rfl rfl rfl) ?_)
  refine WL.callS rfl rfl (pnt_ctr s.pen _ _ hp) rfl ?_
  rintro _ rfl
  by_cases hq : s.pen.check = 0
  ·skip
   exact jf rfl (jN (ja rfl (jz rfl rfl (jM (jE (jV (WX.inNormal (jA (jD (jX rfl rfl (ja rfl (jC (WX.conv (fun w h => h.sub [0, 0, 0] rfl) (WX.thenK (WK.round 0 (by omega) ⟨2, rfl, by omega, rfl, rfl, rfl, rfl, rfl, rfl, fun _ => q0', fun _ => hq⟩)))))))))))))))
  ·skip
   refine jf rfl (jN (ja rfl (jJ rfl rfl (jM (jF (jS (ja rfl (jf rfl (jM (jR (WX.inRet (jU (jU (WX.inRet (jU ?_)))))))))))))))
   exact jP [] (jr1 rfl (jtI rfl)) ⟨rfl, rfl, by rw [Sty.check, if_neg (fun e => e q0'), if_pos hq]⟩
 have hc : s.check = if ¬ s.nums then 30 else dashCheck s.dash s.phase := by
  rw [Sty.check, if_neg (fun e => e (q0 (by omega))), if_neg (fun e => e (q1 (by omega)))]
 rw [hc]
 clear hc
 refine jS (jx rfl rfl (jM (jB (jE (WC.exit (WX.thenExit (WX.thenExit (WX.inHit (jA (jB (jS (jm (jn rfl) (jm (jp 1 rfl rfl rfl) (jm (Val.build (cs := [vi s.rule, vi 1, vi 2]) rfl) ?_))))))))))))))
 refine jm (jn rfl) (jm (jp 1 rfl rfl rfl) (jm (Val.build (cs := [vi s.half, vi 0, vi 32768]) rfl) ?_))
 refine jm (jn rfl) (jm (jp 1 rfl rfl rfl) (jm (Val.build (cs := [vi s.cap, vi 0, vi 2]) rfl) ?_))
 refine jm (jn rfl) (jm (jp 1 rfl rfl rfl) (jm (Val.build (cs := [vi s.opac, vi 0, vi 255]) rfl) ?_))
 refine jm (jn rfl) (jm (jp 1 rfl rfl rfl) (jm (Val.build (cs := [vi s.mode, vi 0, vi 4]) rfl) ?_))
 refine WL.buildSlice (by with_unfolding_all exact rfl) rfl (by with_unfolding_all exact rfl) rfl (fun _ => ?_)
 refine jW ?_
 refine jm (jo rfl) (ja rfl (jM (WC.block ?_)))
 rename_i g3
 refine WC.conv (fun w h => h.sub [0, 0, 1] rfl) ?_
 refine WC.loop (fun n ρ' I' L' => ∃ k : Nat, n = 5 - k ∧ k ≤ 5 ∧ I' = I0 ∧ ρ' 1 = ptr g1 ∧ ρ' 39 = .slice (some ⟨g3, 0, none⟩) 5 5 ∧ ρ' 40 = vi 5 ∧ ρ' 41 = vi k ∧ L' = [F, box g1 35 (s.cs (Value.slice a1 s.fill.stops.length c1) (Value.slice a2 s.pen.stops.length c2) (Value.slice a3 s.dash.length c3)), box g3 118 [vi s.rule, vi 1, vi 2, vi s.half, vi 0, vi 32768, vi s.cap, vi 0, vi 2, vi s.opac, vi 0, vi 255, vi s.mode, vi 0, vi 4]] ∧ (0 < k → 1 ≤ s.rule ∧ s.rule ≤ 2) ∧ (1 < k → 0 ≤ s.half ∧ s.half ≤ 32768) ∧ (2 < k → 0 ≤ s.cap ∧ s.cap ≤ 2) ∧ (3 < k → 0 ≤ s.opac ∧ s.opac ≤ 255) ∧ (4 < k → 0 ≤ s.mode ∧ s.mode ≤ 4))
  5 ⟨0, rfl, by omega, rfl, rfl, rfl, rfl, rfl, rfl, fun h => by omega, fun h => by omega, fun h => by omega, fun h => by omega, fun h => by omega⟩ ?_
 rintro n ρ' I1 L' ⟨k, rfl, hk5, rfl, r1, r39, r40, r41, rfl, q0, q1, q2, q3, q4⟩
 refine ju4 r41 r40 r39 r1 ?_
 have hcase : k = 0 ∨ k = 1 ∨ k = 2 ∨ k = 3 ∨ k = 4 ∨ k = 5 := by omega
 rcases hcase with rfl | rfl | rfl | rfl | rfl | rfl
 ·by_cases hq : 1 ≤ s.rule ∧ s.rule ≤ 2
  ·skip
   refine jS (jy rfl rfl (jM (jB (jF (jV (jA (jB (WC.block (jS (jm (jZ rfl rfl) (jm (Val.loadO 2 rfl rfl rfl) ?_)))))))))))
   refine WL.alloc rfl (fun _ => ?_)
   refine jW ?_
   refine WL.store 3 rfl rfl rfl ?_
   refine WL.nSet ?_
   exact jN (jm (jn rfl) (jm (jp 3 rfl rfl rfl) (jm (jn rfl) (jm (jp 3 rfl rfl rfl) (jx rfl rfl (jb rfl (jG (jm (jn rfl) (jG (jm (jp 3 rfl rfl rfl) (jG (jm (jn rfl) (jG (jm (jp 3 rfl rfl rfl) (jG (jL rfl rfl (jk rfl (jM (jE (jV (WX.inNormal (jA (jD (jX rfl rfl (ja rfl (jC (WX.conv (fun w h => h.sub [0, 0, 0] rfl) (WX.thenK (WK.round 4 (by omega) ⟨1, rfl, by omega, rfl, rfl, rfl, rfl, rfl, rfl, fun _ => hq, fun h => by omega, fun h => by omega, fun h => by omega, fun h => by omega⟩)))))))))))))))))))))))))))))
  ·rw [if_pos (fun e => hq e.1)]
   refine jS (jy rfl rfl (jM (jB (jF (jV (jA (jB (WC.block (jS (jm (jZ rfl rfl) (jm (Val.loadO 2 rfl rfl rfl) ?_)))))))))))
   refine WL.alloc rfl (fun _ => ?_)
   refine jW ?_
   refine WL.store 3 rfl rfl rfl ?_
   refine WL.nSet ?_
   refine jN (jm (jn rfl) (jm (jp 3 rfl rfl rfl) (jm (jn rfl) (jm (jp 3 rfl rfl rfl) ?_))))
   refine WL.ltI rfl rfl rfl (fun h => ?_) (fun h => ?_)
   refine jb rfl (jH (jH (jH (jH (jH (jk rfl (jM (jF (jS (jf rfl (jM (jR (WX.inRet (jU (jU (WX.inRet (jU ?_)))))))))))))))))
   rotate_left
   refine jb rfl (jG (jm (jn rfl) (jG (jm (jp 3 rfl rfl rfl) (jG (jm (jn rfl) (jG (jm (jp 3 rfl rfl rfl) (jG (jO rfl rfl (jk rfl (jM (jF (jS (jf rfl (jM (jR (WX.inRet (jU (jU (WX.inRet (jU ?_))))))))))))))))))))))
   rotate_left
   all_goals
    refine jP [] (jr1 rfl (jtI rfl)) ?_
   all_goals exact ⟨rfl, rfl, rfl⟩
 ·by_cases hq : 0 ≤ s.half ∧ s.half ≤ 32768
  ·skip
   refine jS (jy rfl rfl (jM (jB (jF (jV (jA (jB (WC.block (jS (jm (jZ rfl rfl) (jm (Val.loadO 2 rfl rfl rfl) ?_)))))))))))
   refine WL.alloc rfl (fun _ => ?_)
   refine jW ?_
   refine WL.store 3 rfl rfl rfl ?_
   refine WL.nSet ?_
   exact jN (jm (jn rfl) (jm (jp 3 rfl rfl rfl) (jm (jn rfl) (jm (jp 3 rfl rfl rfl) (jx rfl rfl (jb rfl (jG (jm (jn rfl) (jG (jm (jp 3 rfl rfl rfl) (jG (jm (jn rfl) (jG (jm (jp 3 rfl rfl rfl) (jG (jL rfl rfl (jk rfl (jM (jE (jV (WX.inNormal (jA (jD (jX rfl rfl (ja rfl (jC (WX.conv (fun w h => h.sub [0, 0, 0] rfl) (WX.thenK (WK.round 3 (by omega) ⟨2, rfl, by omega, rfl, rfl, rfl, rfl, rfl, rfl, fun _ => q0 (by omega), fun _ => hq, fun h => by omega, fun h => by omega, fun h => by omega⟩)))))))))))))))))))))))))))))
  ·rw [if_pos (fun e => hq e.2.1)]
   refine jS (jy rfl rfl (jM (jB (jF (jV (jA (jB (WC.block (jS (jm (jZ rfl rfl) (jm (Val.loadO 2 rfl rfl rfl) ?_)))))))))))
   refine WL.alloc rfl (fun _ => ?_)
   refine jW ?_
   refine WL.store 3 rfl rfl rfl ?_
   refine WL.nSet ?_
   refine jN (jm (jn rfl) (jm (jp 3 rfl rfl rfl) (jm (jn rfl) (jm (jp 3 rfl rfl rfl) ?_))))
   refine WL.ltI rfl rfl rfl (fun h => ?_) (fun h => ?_)
   refine jb rfl (jH (jH (jH (jH (jH (jk rfl (jM (jF (jS (jf rfl (jM (jR (WX.inRet (jU (jU (WX.inRet (jU ?_)))))))))))))))))
   rotate_left
   refine jb rfl (jG (jm (jn rfl) (jG (jm (jp 3 rfl rfl rfl) (jG (jm (jn rfl) (jG (jm (jp 3 rfl rfl rfl) (jG (jO rfl rfl (jk rfl (jM (jF (jS (jf rfl (jM (jR (WX.inRet (jU (jU (WX.inRet (jU ?_))))))))))))))))))))))
   rotate_left
   all_goals
    refine jP [] (jr1 rfl (jtI rfl)) ?_
   all_goals exact ⟨rfl, rfl, rfl⟩
 ·by_cases hq : 0 ≤ s.cap ∧ s.cap ≤ 2
  ·skip
   refine jS (jy rfl rfl (jM (jB (jF (jV (jA (jB (WC.block (jS (jm (jZ rfl rfl) (jm (Val.loadO 2 rfl rfl rfl) ?_)))))))))))
   refine WL.alloc rfl (fun _ => ?_)
   refine jW ?_
   refine WL.store 3 rfl rfl rfl ?_
   refine WL.nSet ?_
   exact jN (jm (jn rfl) (jm (jp 3 rfl rfl rfl) (jm (jn rfl) (jm (jp 3 rfl rfl rfl) (jx rfl rfl (jb rfl (jG (jm (jn rfl) (jG (jm (jp 3 rfl rfl rfl) (jG (jm (jn rfl) (jG (jm (jp 3 rfl rfl rfl) (jG (jL rfl rfl (jk rfl (jM (jE (jV (WX.inNormal (jA (jD (jX rfl rfl (ja rfl (jC (WX.conv (fun w h => h.sub [0, 0, 0] rfl) (WX.thenK (WK.round 2 (by omega) ⟨3, rfl, by omega, rfl, rfl, rfl, rfl, rfl, rfl, fun _ => q0 (by omega), fun _ => q1 (by omega), fun _ => hq, fun h => by omega, fun h => by omega⟩)))))))))))))))))))))))))))))
  ·rw [if_pos (fun e => hq e.2.2.1)]
   refine jS (jy rfl rfl (jM (jB (jF (jV (jA (jB (WC.block (jS (jm (jZ rfl rfl) (jm (Val.loadO 2 rfl rfl rfl) ?_)))))))))))
   refine WL.alloc rfl (fun _ => ?_)
   refine jW ?_
   refine WL.store 3 rfl rfl rfl ?_
   refine WL.nSet ?_
   refine jN (jm (jn rfl) (jm (jp 3 rfl rfl rfl) (jm (jn rfl) (jm (jp 3 rfl rfl rfl) ?_))))
   refine WL.ltI rfl rfl rfl (fun h => ?_) (fun h => ?_)
   refine jb rfl (jH (jH (jH (jH (jH (jk rfl (jM (jF (jS (jf rfl (jM (jR (WX.inRet (jU (jU (WX.inRet (jU ?_)))))))))))))))))
   rotate_left
   refine jb rfl (jG (jm (jn rfl) (jG (jm (jp 3 rfl rfl rfl) (jG (jm (jn rfl) (jG (jm (jp 3 rfl rfl rfl) (jG (jO rfl rfl (jk rfl (jM (jF (jS (jf rfl (jM (jR (WX.inRet (jU (jU (WX.inRet (jU ?_))))))))))))))))))))))
   rotate_left
   all_goals
    refine jP [] (jr1 rfl (jtI rfl)) ?_
   all_goals exact ⟨rfl, rfl, rfl⟩
 ·by_cases hq : 0 ≤ s.opac ∧ s.opac ≤ 255
  ·skip
   refine jS (jy rfl rfl (jM (jB (jF (jV (jA (jB (WC.block (jS (jm (jZ rfl rfl) (jm (Val.loadO 2 rfl rfl rfl) ?_)))))))))))
   refine WL.alloc rfl (fun _ => ?_)
   refine jW ?_
   refine WL.store 3 rfl rfl rfl ?_
   refine WL.nSet ?_
   exact jN (jm (jn rfl) (jm (jp 3 rfl rfl rfl) (jm (jn rfl) (jm (jp 3 rfl rfl rfl) (jx rfl rfl (jb rfl (jG (jm (jn rfl) (jG (jm (jp 3 rfl rfl rfl) (jG (jm (jn rfl) (jG (jm (jp 3 rfl rfl rfl) (jG (jL rfl rfl (jk rfl (jM (jE (jV (WX.inNormal (jA (jD (jX rfl rfl (ja rfl (jC (WX.conv (fun w h => h.sub [0, 0, 0] rfl) (WX.thenK (WK.round 1 (by omega) ⟨4, rfl, by omega, rfl, rfl, rfl, rfl, rfl, rfl, fun _ => q0 (by omega), fun _ => q1 (by omega), fun _ => q2 (by omega), fun _ => hq, fun h => by omega⟩)))))))))))))))))))))))))))))
  ·rw [if_pos (fun e => hq e.2.2.2.1)]
   refine jS (jy rfl rfl (jM (jB (jF (jV (jA (jB (WC.block (jS (jm (jZ rfl rfl) (jm (Val.loadO 2 rfl rfl rfl) ?_)))))))))))
   refine WL.alloc rfl (fun _ => ?_)
   refine jW ?_
   refine WL.store 3 rfl rfl rfl ?_
   refine WL.nSet ?_
   refine jN (jm (jn rfl) (jm (jp 3 rfl rfl rfl) (jm (jn rfl) (jm (jp 3 rfl rfl rfl) ?_))))
   refine WL.ltI rfl rfl rfl (fun h => ?_) (fun h => ?_)
   refine jb rfl (jH (jH (jH (jH (jH (jk rfl (jM (jF (jS (jf rfl (jM (jR (WX.inRet (jU (jU (WX.inRet (jU ?_)))))))))))))))))
   rotate_left
   refine jb rfl (jG (jm (jn rfl) (jG (jm (jp 3 rfl rfl rfl) (jG (jm (jn rfl) (jG (jm (jp 3 rfl rfl rfl) (jG (jO rfl rfl (jk rfl (jM (jF (jS (jf rfl (jM (jR (WX.inRet (jU (jU (WX.inRet (jU ?_))))))))))))))))))))))
   rotate_left
   all_goals
    refine jP [] (jr1 rfl (jtI rfl)) ?_
   all_goals exact ⟨rfl, rfl, rfl⟩
 ·by_cases hq : 0 ≤ s.mode ∧ s.mode ≤ 4
  ·skip
   refine jS (jy rfl rfl (jM (jB (jF (jV (jA (jB (WC.block (jS (jm (jZ rfl rfl) (jm (Val.loadO 2 rfl rfl rfl) ?_)))))))))))
   refine WL.alloc rfl (fun _ => ?_)
   refine jW ?_
   refine WL.store 3 rfl rfl rfl ?_
   refine WL.nSet ?_
   exact jN (jm (jn rfl) (jm (jp 3 rfl rfl rfl) (jm (jn rfl) (jm (jp 3 rfl rfl rfl) (jx rfl rfl (jb rfl (jG (jm (jn rfl) (jG (jm (jp 3 rfl rfl rfl) (jG (jm (jn rfl) (jG (jm (jp 3 rfl rfl rfl) (jG (jL rfl rfl (jk rfl (jM (jE (jV (WX.inNormal (jA (jD (jX rfl rfl (ja rfl (jC (WX.conv (fun w h => h.sub [0, 0, 0] rfl) (WX.thenK (WK.round 0 (by omega) ⟨5, rfl, by omega, rfl, rfl, rfl, rfl, rfl, rfl, fun _ => q0 (by omega), fun _ => q1 (by omega), fun _ => q2 (by omega), fun _ => q3 (by omega), fun _ => hq⟩)))))))))))))))))))))))))))))
  ·rw [if_pos (fun e => hq e.2.2.2.2)]
   refine jS (jy rfl rfl (jM (jB (jF (jV (jA (jB (WC.block (jS (jm (jZ rfl rfl) (jm (Val.loadO 2 rfl rfl rfl) ?_)))))))))))
   refine WL.alloc rfl (fun _ => ?_)
   refine jW ?_
   refine WL.store 3 rfl rfl rfl ?_
   refine WL.nSet ?_
   refine jN (jm (jn rfl) (jm (jp 3 rfl rfl rfl) (jm (jn rfl) (jm (jp 3 rfl rfl rfl) ?_))))
   refine WL.ltI rfl rfl rfl (fun h => ?_) (fun h => ?_)
   refine jb rfl (jH (jH (jH (jH (jH (jk rfl (jM (jF (jS (jf rfl (jM (jR (WX.inRet (jU (jU (WX.inRet (jU ?_)))))))))))))))))
   rotate_left
   refine jb rfl (jG (jm (jn rfl) (jG (jm (jp 3 rfl rfl rfl) (jG (jm (jn rfl) (jG (jm (jp 3 rfl rfl rfl) (jG (jO rfl rfl (jk rfl (jM (jF (jS (jf rfl (jM (jR (WX.inRet (jU (jU (WX.inRet (jU ?_))))))))))))))))))))))
   rotate_left
   all_goals
    refine jP [] (jr1 rfl (jtI rfl)) ?_
   all_goals exact ⟨rfl, rfl, rfl⟩
 ·rw [if_neg (fun e => e ⟨q0 (by omega), q1 (by omega), q2 (by omega), q3 (by omega), q4 (by omega)⟩)]
  refine jS (jx rfl rfl (jM (jB (jE (WC.exit (WX.thenExit (WX.thenExit (WX.inHit (jK (jm (jn rfl) (jm (jt 1 rfl rfl rfl) (WL.callS rfl rfl (dash_ctr s.dash s.phase _ _ hd) rfl ?_))))))))))))
  rintro _ rfl
  refine jf rfl (jM (jR ?_))
  exact jP [] (jr1 rfl (jtI rfl)) ⟨rfl, rfl, rfl⟩
theorem need_le (k : Int) : need k ≤ 3 := by unfold need; split <;> (try split) <;> (try split) <;> omega
theorem chk1_ctr (p : Pt) (I : Mem) : Ctr Tryz.prog 59 [.agg p.cs.toArray] I [] (Still I (EqP (¬ p.inn))) := by
 refine Ctr.intro Tryz.func59 rfl rfl rfl fun E F => ?_
 refine jS (WL.boxA rfl rfl (fun _ => ?_))
 refine jW ?_
 refine jg rfl (jN (jm (jt 1 rfl rfl rfl) ?_))
 refine WL.callE rfl rfl (inn_ctr p _) rfl (fun h => ?_) (fun h => ?_)
 ·skip
  refine jl rfl (jg rfl (jM (jR ?_)))
  exact jP [] (jr1 rfl (jtB rfl)) ⟨rfl, rfl, EqP.f fun e => e h⟩
 ·skip
  refine jl rfl (jg rfl (jM (jR ?_)))
  exact jP [] (jr1 rfl (jtB rfl)) ⟨rfl, rfl, EqP.t h⟩
theorem idx_ctr (s : Sg) (g m : Nat) (hm : m ≤ 3) (I : Mem) : Ctr Tryz.prog 97 [.slice (some ⟨g, 1, none⟩) m 3, .func (.func 59) #[] #[]] I [box g 57 s.cs]
  (Keep I [box g 57 s.cs] fun v => ∃ i : Int, v = vi i ∧ (0 ≤ i ↔ ∃ k < m, ¬ (s.point k).inn)) := by
 refine Ctr.intro Tryz.func97 rfl rfl rfl fun E F => ?_
 refine jS (jf rfl (jM (jB (jS (jc rfl (jm (jo rfl) (ja rfl (jM (WC.block ?_)))))))))
 refine WC.loop (fun n ρ' I' L' => ∃ k : Nat, n = m - k ∧ k ≤ m ∧ I' = I ∧ ρ' 0 = .slice (some ⟨g, 1, none⟩) m 3 ∧ ρ' 1 = .func (.func 59) #[] #[] ∧ ρ' 7 = vi m ∧ ρ' 8 = vi k ∧ L' = [F, box g 57 s.cs] ∧ ∀ j < k, (s.point j).inn)
  m ⟨0, rfl, by omega, rfl, rfl, rfl, rfl, rfl, rfl, fun j h => by omega⟩ ?_
 rintro n ρ' I0 L' ⟨k, rfl, hk, rfl, r0, r1, r7, r8, rfl, hall⟩
 refine ju4 r8 r7 r1 r0 ?_
 by_cases hkm : k < m
 ·have hcase : k = 0 ∨ k = 1 ∨ k = 2 := by omega
  rcases hcase with rfl | rfl | rfl
  ·skip
   refine jS (jy rfl rfl (jM (jB (jF (jV (jA (jB (WC.block (jS (ja rfl (jf rfl (jN (jm (Val.moveF rfl) (jc rfl (ja rfl (jm (jZ rfl rfl) (jm (Val.loadO 1 rfl rfl rfl) ?_)))))))))))))))))
   refine WL.callE rfl rfl (chk1_ctr s.p0 _) rfl (fun h => ?_) (fun h => ?_)
   ·skip
    refine jM (jF (jS (ja rfl (jf rfl (jM (jR (WX.inRet (jU (jU (WX.inRet (jU ?_)))))))))))
    exact jP [0] (jr1 rfl (jtI rfl)) ⟨rfl, rfl, 0, rfl, fun _ => ⟨0, hkm, h⟩, fun _ => by decide⟩
   ·skip
    refine jM (jE (jV (WX.inNormal (jA (jD (jX rfl rfl (ja rfl (jC ?_))))))))
    have hall' : ∀ j < 0 + 1, (s.point j).inn := fun j hj => by
     rcases Nat.lt_or_ge j 0 with h9 | h9
     ·exact hall j h9
     ·obtain rfl : j = 0 := by omega
      exact Decidable.of_not_not h
    exact WX.thenK (WK.round (m - (0 + 1)) (by omega) ⟨0 + 1, rfl, by omega, rfl, rfl, rfl, rfl, rfl, rfl, hall'⟩)
  ·skip
   refine jS (jy rfl rfl (jM (jB (jF (jV (jA (jB (WC.block (jS (ja rfl (jf rfl (jN (jm (Val.moveF rfl) (jc rfl (ja rfl (jm (jZ rfl rfl) (jm (Val.loadO 1 rfl rfl rfl) ?_)))))))))))))))))
   refine WL.callE rfl rfl (chk1_ctr s.p1 _) rfl (fun h => ?_) (fun h => ?_)
   ·skip
    refine jM (jF (jS (ja rfl (jf rfl (jM (jR (WX.inRet (jU (jU (WX.inRet (jU ?_)))))))))))
    exact jP [0] (jr1 rfl (jtI rfl)) ⟨rfl, rfl, 1, rfl, fun _ => ⟨1, hkm, h⟩, fun _ => by decide⟩
   ·skip
    refine jM (jE (jV (WX.inNormal (jA (jD (jX rfl rfl (ja rfl (jC ?_))))))))
    have hall' : ∀ j < 1 + 1, (s.point j).inn := fun j hj => by
     rcases Nat.lt_or_ge j 1 with h9 | h9
     ·exact hall j h9
     ·obtain rfl : j = 1 := by omega
      exact Decidable.of_not_not h
    exact WX.thenK (WK.round (m - (1 + 1)) (by omega) ⟨1 + 1, rfl, by omega, rfl, rfl, rfl, rfl, rfl, rfl, hall'⟩)
  ·skip
   refine jS (jy rfl rfl (jM (jB (jF (jV (jA (jB (WC.block (jS (ja rfl (jf rfl (jN (jm (Val.moveF rfl) (jc rfl (ja rfl (jm (jZ rfl rfl) (jm (Val.loadO 1 rfl rfl rfl) ?_)))))))))))))))))
   refine WL.callE rfl rfl (chk1_ctr s.p2 _) rfl (fun h => ?_) (fun h => ?_)
   ·skip
    refine jM (jF (jS (ja rfl (jf rfl (jM (jR (WX.inRet (jU (jU (WX.inRet (jU ?_)))))))))))
    exact jP [0] (jr1 rfl (jtI rfl)) ⟨rfl, rfl, 2, rfl, fun _ => ⟨2, hkm, h⟩, fun _ => by decide⟩
   ·skip
    refine jM (jE (jV (WX.inNormal (jA (jD (jX rfl rfl (ja rfl (jC ?_))))))))
    have hall' : ∀ j < 2 + 1, (s.point j).inn := fun j hj => by
     rcases Nat.lt_or_ge j 2 with h9 | h9
     ·exact hall j h9
     ·obtain rfl : j = 2 := by omega
      exact Decidable.of_not_not h
    exact WX.thenK (WK.round (m - (2 + 1)) (by omega) ⟨2 + 1, rfl, by omega, rfl, rfl, rfl, rfl, rfl, rfl, hall'⟩)
 ·have : k = m := by omega
  subst this
  refine jS (jx rfl rfl (jM (jB (jE (WC.exit (WX.thenExit (WX.thenExit (WX.inHit (jK (jf rfl (jM (jR ?_))))))))))))
  exact jP [0] (jr1 rfl (jtI rfl)) ⟨rfl, rfl, -1, rfl, fun h => absurd h (by decide), fun ⟨j, h1, h2⟩ => absurd (hall j h1) h2⟩
theorem points_ctr (s : Sg) (g : Nat) (I : Mem) (hN : NeedAt I) : Ctr Tryz.prog 58 [ptr g] I [box g 57 s.cs] (Keep I [box g 57 s.cs] fun v => v = .slice (some ⟨g, 1, none⟩) (need s.kind) 3) := by
 have hn := need_le s.kind
 refine Ctr.intro Tryz.func58 rfl rfl rfl fun E F => ?_
 refine jS (jh rfl (jM (jB (j8 999 [1] rfl (jT 0 rfl (Val.moveP rfl) (jT 1 rfl (jr rfl) (jT 2 rfl (jn rfl) (jT 3 rfl (Val.moveP rfl) (jT 4 rfl (jr rfl) (jT 5 rfl (jn rfl) (jT 6 rfl (jp 0 rfl rfl rfl) (j5 7 rfl (WL.callS rfl rfl (need_ctr s.kind _ hN) rfl ?_)))))))))))))
 rintro _ rfl
 refine jC (j7 [1] rfl (jT 8 rfl (Val.sliceA (h := need s.kind) rfl (.none _) (.some (e := ((need s.kind : Nat) : Int)) rfl (Int.natCast_nonneg _)) (by omega) (by omega)) ?_))
 refine jT 9 rfl (Val.assignS rfl) (j6 (jA (jR ?_)))
 exact jP [0] (jr1 rfl (jtS rfl)) ⟨rfl, rfl, rfl⟩
theorem contains_ctr (s : Sg) (g m : Nat) (hm : m ≤ 3) (I : Mem) : Ctr Tryz.prog 57 [.slice (some ⟨g, 1, none⟩) m 3, .func (.func 59) #[] #[]] I [box g 57 s.cs]
  (Keep I [box g 57 s.cs] (EqP (∃ k < m, ¬ (s.point k).inn))) := by
 refine Ctr.intro Tryz.func57 rfl rfl rfl fun E F => ?_
 refine jS (jg rfl (jN (jc rfl (jm (Val.moveF rfl) (WL.callK [1] rfl rfl rfl (idx_ctr s g m hm _) rfl ?_)))))
 rintro _ ⟨i, rfl, hi⟩
 by_cases h0 : 0 ≤ i
 ·skip
  refine jm (Val.geq rfl rfl (decide_eq_true (by omega))) ?_
  refine jg rfl (jM (jR ?_))
  exact jP [0] (jr1 rfl (jtB rfl)) ⟨rfl, rfl, EqP.t (hi.1 h0)⟩
 ·skip
  refine jm (Val.geq rfl rfl (decide_eq_false (by omega))) ?_
  refine jg rfl (jM (jR ?_))
  exact jP [0] (jr1 rfl (jtB rfl)) ⟨rfl, rfl, EqP.f fun e => h0 (hi.2 e)⟩
theorem path_ctr (l : List Sg) (v : Value) (I : Mem) (hN : NeedAt I) (hv : LsAt Sg.rep I l v) : Ctr Tryz.prog 18 [v] I [] (Still I fun r => r = vi (pathCheck l)) := by
 have hlb := hv.le
 obtain ⟨a1, c1, rfl⟩ := hv.sl
 refine Ctr.intro Tryz.func18 rfl rfl rfl fun E F => ?_
 by_cases hl : 4096 < l.length
 ·skip
  refine jS (jf rfl (jM (jB (jS (jc rfl (jm (jo rfl) (jO rfl rfl (jM (jF (jS (jf rfl (jM (jR (jU ?_))))))))))))))
  exact jP [] (jr1 rfl (jtI rfl)) ⟨rfl, rfl, by rw [pathCheck, if_pos hl]⟩
 rw [pathCheck, if_neg hl]
 refine jS (jf rfl (jM (jB (jS (jc rfl (jm (jo rfl) (jL rfl rfl (jM (jE (jV (jK (jg rfl (jM (jB (jS (jc rfl (jm (jo rfl) (ja rfl (jM (WC.block ?_))))))))))))))))))))
 refine WC.loop (fun n ρ' I' L' => ∃ (k : Nat) (o : Bool), n = l.length - k ∧ k ≤ l.length ∧ I' = I ∧ ρ' 3 = .bool o ∧ ρ' 11 = .slice a1 l.length c1 ∧ ρ' 12 = vi l.length ∧ ρ' 13 = vi k ∧ L' = [F] ∧ pathGo false l = pathGo o (l.drop k))
  l.length ⟨0, false, rfl, by omega, rfl, rfl, rfl, rfl, rfl, rfl, rfl⟩ ?_
 rintro n ρ' I0 L' ⟨k, o, rfl, hk, rfl, r3, r11, r12, r13, rfl, hgo⟩
 refine ju4 r13 r12 r11 r3 ?_
 rw [hgo]
 by_cases hkn : k < l.length
 case neg =>
  have : k = l.length := by omega
  subst this
  rw [List.drop_length]
  refine jS (jx rfl rfl (jM (jB (jE (WC.exit (WX.thenExit (WX.thenExit (WX.inHit (jK (jf rfl (jM (jR ?_))))))))))))
  exact jP [] (jr1 rfl (jtI rfl)) ⟨rfl, rfl, rfl⟩
 obtain ⟨b, off, cap', cs, he, ⟨rfl, hi⟩, hA⟩ := hv.get k hkn
 cases he
 rw [List.drop_eq_getElem_cons hkn, pathGo]
 rw [List.drop_eq_getElem_cons hkn, pathGo] at hgo
 generalize l[k] = x at *
 have hn := need_le x.kind
 by_cases b1 : x.kind < 1
 ·rw [if_pos (by rw [Sg.check, if_pos (.inl b1)]; decide), Sg.check, if_pos (.inl b1)]
  refine jS (jy rfl rfl (jM (jB (jF (jV (jA (jB (WC.block (jS (jm (jZ rfl rfl) (jm (Val.loadI rfl (by assumption) rfl) ?_)))))))))))
  refine WL.alloc rfl (fun _ => ?_)
  refine jW ?_
  refine WL.stA 1 rfl rfl rfl rfl ?_
  refine jM (jB (jS (jm (jn rfl) (jm (jp 1 rfl rfl rfl) (jy rfl rfl (jb rfl (jH (jH (jH (jk rfl (jb rfl (jH (jH (jH (WL.gU rfl rfl rfl ?_)))))))))))))))
  refine WL.gU rfl rfl rfl ?_
  refine WL.gU rfl rfl rfl ?_
  refine jH (jk rfl (jM (jF (jS (jf rfl (jM (jR (jU (WX.inRet (jU (jU (WX.inRet (jU ?_)))))))))))))
  exact jP [] (jr1 rfl (jtI rfl)) ⟨rfl, rfl, rfl⟩
 by_cases b2 : 5 < x.kind
 ·rw [if_pos (by rw [Sg.check, if_pos (.inr (.inl b2))]; decide), Sg.check, if_pos (.inr (.inl b2))]
  refine jS (jy rfl rfl (jM (jB (jF (jV (jA (jB (WC.block (jS (jm (jZ rfl rfl) (jm (Val.loadI rfl (by assumption) rfl) ?_)))))))))))
  refine WL.alloc rfl (fun _ => ?_)
  refine jW ?_
  refine WL.stA 1 rfl rfl rfl rfl ?_
  refine jM (jB (jS (jm (jn rfl) (jm (jp 1 rfl rfl rfl) (jx rfl rfl (jb rfl (jG (jm (jn rfl) (jG (jm (jp 1 rfl rfl rfl) (jG (jO rfl rfl (jk rfl (jb rfl (jH (jH (jH (WL.gU rfl rfl rfl ?_))))))))))))))))))
  refine WL.gU rfl rfl rfl ?_
  refine WL.gU rfl rfl rfl ?_
  refine jH (jk rfl (jM (jF (jS (jf rfl (jM (jR (jU (WX.inRet (jU (jU (WX.inRet (jU ?_)))))))))))))
  exact jP [] (jr1 rfl (jtI rfl)) ⟨rfl, rfl, rfl⟩
 by_cases b3 : o = false ∧ x.kind ≠ 1
 ·rw [if_pos (by rw [Sg.check, if_pos (.inr (.inr b3))]; decide), Sg.check, if_pos (.inr (.inr b3))]
  obtain ⟨rfl, b3'⟩ := b3
  refine jS (jy rfl rfl (jM (jB (jF (jV (jA (jB (WC.block (jS (jm (jZ rfl rfl) (jm (Val.loadI rfl (by assumption) rfl) ?_)))))))))))
  refine WL.alloc rfl (fun _ => ?_)
  refine jW ?_
  refine WL.stA 1 rfl rfl rfl rfl ?_
  refine jM (jB (jS (jm (jn rfl) (jm (jp 1 rfl rfl rfl) (jx rfl rfl (jb rfl (jG (jm (jn rfl) (jG (jm (jp 1 rfl rfl rfl) (jG (jL rfl rfl (jk rfl (jb rfl (jG (jb rfl (jG (jl rfl (jG (jb rfl (jG (jm (jn rfl) (jG (jm (jp 1 rfl rfl rfl) (jG (jJ rfl rfl (jG (jk rfl (jk rfl (jM (jF (jS (jf rfl (jM (jR (jU (WX.inRet (jU (jU ?_)))))))))))))))))))))))))))))))))))))))
  refine WX.inRet (jU ?_)
  exact jP [] (jr1 rfl (jtI rfl)) ⟨rfl, rfl, rfl⟩
 have hc : x.check o = if (need x.kind ≤ 0 ∧ x.p0 ≠ Pt.z) ∨ (need x.kind ≤ 1 ∧ x.p1 ≠ Pt.z) ∨ (need x.kind ≤ 2 ∧ x.p2 ≠ Pt.z) then 33
   else if (0 < need x.kind ∧ ¬ x.p0.inn) ∨ (1 < need x.kind ∧ ¬ x.p1.inn) ∨ (2 < need x.kind ∧ ¬ x.p2.inn) then 30 else 0 := by
  rw [Sg.check, if_neg (fun e => e.elim b1 fun e => e.elim b2 b3)]
 have fin : ∀ e : Int, e ≠ 0 → x.check o = e → (if x.check o ≠ 0 then x.check o else pathGo (decide (x.kind ≠ 5)) (l.drop (k + 1))) = e := fun e h1 h2 => by rw [if_pos (by rw [h2]; exact h1), h2]
 cases o with
 | true =>
  refine jS (jy rfl rfl (jM (jB (jF (jV (jA (jB (WC.block (jS (jm (jZ rfl rfl) (jm (Val.loadI rfl (by assumption) rfl) ?_)))))))))))
  refine WL.alloc rfl (fun _ => ?_)
  refine jW ?_
  refine WL.stA 1 rfl rfl rfl rfl ?_
  refine jM (jB (jS (jm (jn rfl) (jm (jp 1 rfl rfl rfl) (jx rfl rfl (jb rfl (jG (jm (jn rfl) (jG (jm (jp 1 rfl rfl rfl) (jG (jL rfl rfl (jk rfl (jb rfl (jG (jb rfl (jG (jl rfl (jG (jb rfl (jH (jH (jH (jG (jk rfl (jk rfl (jM (jE (jV (jA (jB (jS (jm (jn rfl) (jm (jt 1 rfl rfl rfl) (ja rfl (jM (WC.block ?_)))))))))))))))))))))))))))))))))))))
  rename_i g5
  refine WC.loop (fun n ρ' I' L' => ∃ q : Nat, n = 3 - q ∧ q ≤ 3 ∧ I' = I0 ∧ ρ' 3 = .bool true ∧ ρ' 5 = ptr g5 ∧ ρ' 11 = .slice (some ⟨b, off, none⟩) l.length c1 ∧ ρ' 12 = vi l.length ∧ ρ' 13 = vi k ∧ ρ' 35 = .agg #[vi x.p0.x, vi x.p0.y, vi x.p1.x, vi x.p1.y, vi x.p2.x, vi x.p2.y] ∧ ρ' 36 = vi q ∧
    L' = [F, box g5 57 x.cs] ∧ (0 < q → need x.kind ≤ 0 → x.p0 = Pt.z) ∧ (1 < q → need x.kind ≤ 1 → x.p1 = Pt.z) ∧ (2 < q → need x.kind ≤ 2 → x.p2 = Pt.z))
   3 ⟨0, rfl, by omega, rfl, rfl, rfl, rfl, rfl, rfl, rfl, rfl, rfl, fun h => by omega, fun h => by omega, fun h => by omega⟩ ?_
  rintro n ρ' I1 L' ⟨q, rfl, hq3, rfl, r3, r5, r11, r12, r13, r35, r36, rfl, z0, z1, z2⟩
  refine ju7 r36 r35 r13 r12 r11 r5 r3 ?_
  have hcase : q = 0 ∨ q = 1 ∨ q = 2 ∨ q = 3 := by omega
  rcases hcase with rfl | rfl | rfl | rfl
  ·skip
   refine jS (jy rfl rfl (jM (jB (jF (jV (jA (jB (WC.block (jS (ja rfl (jm (Val.indexA (vs := x.p0.cs) rfl rfl (by decide) (by decide) rfl) ?_)))))))))))
   refine WL.alloc rfl (fun _ => ?_)
   refine jW ?_
   refine jf rfl (WL.stA 2 rfl rfl rfl rfl ?_)
   refine jN (ja rfl (jm (jn rfl) (jm (jp 1 rfl rfl rfl) (WL.callS rfl rfl (need_ctr x.kind _ hN) rfl ?_))))
   rintro _ rfl
   by_cases hn0 : need x.kind ≤ 0
   ·have hn' : (need x.kind : Int) ≤ 0 := by omega
    refine jm (Val.geq rfl rfl (decide_eq_true (by omega))) ?_
    refine jb rfl (jG (jm (jt 2 rfl rfl rfl) (jG (jm (Val.build0) ?_))))
    refine jG ?_
    refine WL.neS rfl rfl rfl rfl rfl (fun h => ?_) (fun h => ?_)
    refine jk rfl (jM (jF (jS (jf rfl (jM (jR (WX.inRet (jU (jU (WX.inRet (jU (WX.inRet (jU (jU (WX.inRet (jU ?_))))))))))))))))
    ·skip
     exact jP [] (jr1 rfl (jtI rfl)) ⟨rfl, rfl, by rw [fin 33 (by decide) (by rw [hc, if_pos (.inl ⟨hn0, fun e => h (by rw [e])⟩)])]⟩
    ·skip
     exact jk rfl (jM (jE (jV (WX.inNormal (jA (jD (jX rfl rfl (ja rfl (jC (WX.conv (fun w h => h.sub [0, 0] rfl) (WX.thenK (WK.round 2 (by omega) ⟨1, rfl, by omega, rfl, rfl, rfl, rfl, rfl, rfl, rfl, rfl, rfl, fun _ _ => Pt.inj h, fun h => by omega, fun h => by omega⟩))))))))))))
   ·have hn' : ¬ (need x.kind : Int) ≤ 0 := by omega
    refine jm (Val.geq rfl rfl (decide_eq_false (by omega))) ?_
    exact jb rfl (jH (jH (jH (jk rfl (jM (jE (jV (WX.inNormal (jA (jD (jX rfl rfl (ja rfl (jC (WX.conv (fun w h => h.sub [0, 0] rfl) (WX.thenK (WK.round 2 (by omega) ⟨1, rfl, by omega, rfl, rfl, rfl, rfl, rfl, rfl, rfl, rfl, rfl, fun _ h => absurd h hn0, fun h => by omega, fun h => by omega⟩))))))))))))))))
  ·skip
   refine jS (jy rfl rfl (jM (jB (jF (jV (jA (jB (WC.block (jS (ja rfl (jm (Val.indexA (vs := x.p1.cs) rfl rfl (by decide) (by decide) rfl) ?_)))))))))))
   refine WL.alloc rfl (fun _ => ?_)
   refine jW ?_
   refine jf rfl (WL.stA 2 rfl rfl rfl rfl ?_)
   refine jN (ja rfl (jm (jn rfl) (jm (jp 1 rfl rfl rfl) (WL.callS rfl rfl (need_ctr x.kind _ hN) rfl ?_))))
   rintro _ rfl
   by_cases hn0 : need x.kind ≤ 1
   ·have hn' : (need x.kind : Int) ≤ 1 := by omega
    refine jm (Val.geq rfl rfl (decide_eq_true (by omega))) ?_
    refine jb rfl (jG (jm (jt 2 rfl rfl rfl) (jG (jm (Val.build0) ?_))))
    refine jG ?_
    refine WL.neS rfl rfl rfl rfl rfl (fun h => ?_) (fun h => ?_)
    refine jk rfl (jM (jF (jS (jf rfl (jM (jR (WX.inRet (jU (jU (WX.inRet (jU (WX.inRet (jU (jU (WX.inRet (jU ?_))))))))))))))))
    ·skip
     exact jP [] (jr1 rfl (jtI rfl)) ⟨rfl, rfl, by rw [fin 33 (by decide) (by rw [hc, if_pos (.inr (.inl ⟨hn0, fun e => h (by rw [e])⟩))])]⟩
    ·skip
     exact jk rfl (jM (jE (jV (WX.inNormal (jA (jD (jX rfl rfl (ja rfl (jC (WX.conv (fun w h => h.sub [0, 0] rfl) (WX.thenK (WK.round 1 (by omega) ⟨2, rfl, by omega, rfl, rfl, rfl, rfl, rfl, rfl, rfl, rfl, rfl, fun _ => z0 (by omega), fun _ _ => Pt.inj h, fun h => by omega⟩))))))))))))
   ·have hn' : ¬ (need x.kind : Int) ≤ 1 := by omega
    refine jm (Val.geq rfl rfl (decide_eq_false (by omega))) ?_
    exact jb rfl (jH (jH (jH (jk rfl (jM (jE (jV (WX.inNormal (jA (jD (jX rfl rfl (ja rfl (jC (WX.conv (fun w h => h.sub [0, 0] rfl) (WX.thenK (WK.round 1 (by omega) ⟨2, rfl, by omega, rfl, rfl, rfl, rfl, rfl, rfl, rfl, rfl, rfl, fun _ => z0 (by omega), fun _ h => absurd h hn0, fun h => by omega⟩))))))))))))))))
  ·skip
   refine jS (jy rfl rfl (jM (jB (jF (jV (jA (jB (WC.block (jS (ja rfl (jm (Val.indexA (vs := x.p2.cs) rfl rfl (by decide) (by decide) rfl) ?_)))))))))))
   refine WL.alloc rfl (fun _ => ?_)
   refine jW ?_
   refine jf rfl (WL.stA 2 rfl rfl rfl rfl ?_)
   refine jN (ja rfl (jm (jn rfl) (jm (jp 1 rfl rfl rfl) (WL.callS rfl rfl (need_ctr x.kind _ hN) rfl ?_))))
   rintro _ rfl
   by_cases hn0 : need x.kind ≤ 2
   ·have hn' : (need x.kind : Int) ≤ 2 := by omega
    refine jm (Val.geq rfl rfl (decide_eq_true (by omega))) ?_
    refine jb rfl (jG (jm (jt 2 rfl rfl rfl) (jG (jm (Val.build0) ?_))))
    refine jG ?_
    refine WL.neS rfl rfl rfl rfl rfl (fun h => ?_) (fun h => ?_)
    refine jk rfl (jM (jF (jS (jf rfl (jM (jR (WX.inRet (jU (jU (WX.inRet (jU (WX.inRet (jU (jU (WX.inRet (jU ?_))))))))))))))))
    ·skip
     exact jP [] (jr1 rfl (jtI rfl)) ⟨rfl, rfl, by rw [fin 33 (by decide) (by rw [hc, if_pos (.inr (.inr ⟨hn0, fun e => h (by rw [e])⟩))])]⟩
    ·skip
     exact jk rfl (jM (jE (jV (WX.inNormal (jA (jD (jX rfl rfl (ja rfl (jC (WX.conv (fun w h => h.sub [0, 0] rfl) (WX.thenK (WK.round 0 (by omega) ⟨3, rfl, by omega, rfl, rfl, rfl, rfl, rfl, rfl, rfl, rfl, rfl, fun _ => z0 (by omega), fun _ => z1 (by omega), fun _ _ => Pt.inj h⟩))))))))))))
   ·have hn' : ¬ (need x.kind : Int) ≤ 2 := by omega
    refine jm (Val.geq rfl rfl (decide_eq_false (by omega))) ?_
    exact jb rfl (jH (jH (jH (jk rfl (jM (jE (jV (WX.inNormal (jA (jD (jX rfl rfl (ja rfl (jC (WX.conv (fun w h => h.sub [0, 0] rfl) (WX.thenK (WK.round 0 (by omega) ⟨3, rfl, by omega, rfl, rfl, rfl, rfl, rfl, rfl, rfl, rfl, rfl, fun _ => z0 (by omega), fun _ => z1 (by omega), fun _ h => absurd h hn0⟩))))))))))))))))
  ·have z0' := z0 (by omega)
   have z1' := z1 (by omega)
   have z2' := z2 (by omega)
   rw [if_neg (fun e => e.elim (fun e => e.2 (z0' e.1)) fun e => e.elim (fun e => e.2 (z1' e.1)) fun e => e.2 (z2' e.1))] at hc
   refine jS (jx rfl rfl (jM (jB (jE (WC.exit (WX.thenExit (WX.thenExit (WX.inHit (jA (jB (jS (WL.callK [1] rfl rfl rfl (points_ctr x g5 _ hN) rfl ?_))))))))))))
   rintro _ rfl
   skip
   refine WL.callK [1] rfl rfl rfl (contains_ctr x g5 (need x.kind) hn _) rfl ?_
   rintro _ ⟨bb, rfl, hbb⟩
   cases bb with
   | true =>
    obtain ⟨j, hj, hnj⟩ := hbb.1 rfl
    have h2 : (0 < need x.kind ∧ ¬ x.p0.inn) ∨ (1 < need x.kind ∧ ¬ x.p1.inn) ∨ (2 < need x.kind ∧ ¬ x.p2.inn) := by
     have hj3 : j = 0 ∨ j = 1 ∨ j = 2 := by omega
     rcases hj3 with rfl | rfl | rfl
     ·exact .inl ⟨hj, hnj⟩
     ·exact .inr (.inl ⟨hj, hnj⟩)
     ·exact .inr (.inr ⟨hj, hnj⟩)
    refine jM (jF (jS (jf rfl (jM (jR (jU (WX.inRet (jU (jU (WX.inRet (jU ?_)))))))))))
    exact jP [] (jr1 rfl (jtI rfl)) ⟨rfl, rfl, by rw [fin 30 (by decide) (by rw [hc, if_pos h2])]⟩
   | false =>
    have h2 : ¬ ((0 < need x.kind ∧ ¬ x.p0.inn) ∨ (1 < need x.kind ∧ ¬ x.p1.inn) ∨ (2 < need x.kind ∧ ¬ x.p2.inn)) := fun e => by
     have hno : ¬ ∃ k < need x.kind, ¬ (x.point k).inn := fun e => by
      have := hbb.2 e
      cases this
     rcases e with e | e | e
     ·exact hno ⟨0, e.1, e.2⟩
     ·exact hno ⟨1, e.1, e.2⟩
     ·exact hno ⟨2, e.1, e.2⟩
    rw [if_neg h2] at hc
    rw [if_neg (fun e => e hc)] at hgo
    rw [if_neg (fun e => e hc)]
    by_cases h5 : x.kind = 5
    ·rw [decide_eq_false (fun e => e h5)] at hgo
     refine jM (jE (jV (jA (jD (jm (jn rfl) (jm (jp 1 rfl rfl rfl) (jz rfl rfl (jg rfl (jC (WX.inNormal (jA (jD (jX rfl rfl (ja rfl (jC (WX.conv (fun w h => h.sub [0] rfl) ?_))))))))))))))))
     rw [decide_eq_false (fun e => e h5), ← hgo]
     exact WX.thenK (WK.round (l.length - (k + 1)) (by omega) ⟨k + 1, false, rfl, by omega, rfl, rfl, rfl, rfl, rfl, rfl, hgo⟩)
    ·rw [decide_eq_true h5] at hgo
     refine jM (jE (jV (jA (jD (jm (jn rfl) (jm (jp 1 rfl rfl rfl) (jJ rfl rfl (jg rfl (jC (WX.inNormal (jA (jD (jX rfl rfl (ja rfl (jC (WX.conv (fun w h => h.sub [0] rfl) ?_))))))))))))))))
     rw [decide_eq_true h5, ← hgo]
     exact WX.thenK (WK.round (l.length - (k + 1)) (by omega) ⟨k + 1, true, rfl, by omega, rfl, rfl, rfl, rfl, rfl, rfl, hgo⟩)
 | false =>
  have hk1 : x.kind = 1 := Decidable.byContradiction fun e => b3 ⟨rfl, e⟩
  refine jS (jy rfl rfl (jM (jB (jF (jV (jA (jB (WC.block (jS (jm (jZ rfl rfl) (jm (Val.loadI rfl (by assumption) rfl) ?_)))))))))))
  refine WL.alloc rfl (fun _ => ?_)
  refine jW ?_
  refine WL.stA 1 rfl rfl rfl rfl ?_
  refine jM (jB (jS (jm (jn rfl) (jm (jp 1 rfl rfl rfl) (jx rfl rfl (jb rfl (jG (jm (jn rfl) (jG (jm (jp 1 rfl rfl rfl) (jG (jL rfl rfl (jk rfl (jb rfl (jG (jb rfl (jG (jl rfl (jG (jb rfl (jG (jm (jn rfl) (jG (jm (jp 1 rfl rfl rfl) (jG (jz rfl rfl (jG (jk rfl (jk rfl (jM (jE (jV (jA (jB (jS (jm (jn rfl) (jm (jt 1 rfl rfl rfl) (ja rfl (jM ?_)))))))))))))))))))))))))))))))))))))))
  refine WC.block ?_
  rename_i g5
  refine WC.loop (fun n ρ' I' L' => ∃ q : Nat, n = 3 - q ∧ q ≤ 3 ∧ I' = I0 ∧ ρ' 3 = .bool false ∧ ρ' 5 = ptr g5 ∧ ρ' 11 = .slice (some ⟨b, off, none⟩) l.length c1 ∧ ρ' 12 = vi l.length ∧ ρ' 13 = vi k ∧ ρ' 35 = .agg #[vi x.p0.x, vi x.p0.y, vi x.p1.x, vi x.p1.y, vi x.p2.x, vi x.p2.y] ∧ ρ' 36 = vi q ∧
    L' = [F, box g5 57 x.cs] ∧ (0 < q → need x.kind ≤ 0 → x.p0 = Pt.z) ∧ (1 < q → need x.kind ≤ 1 → x.p1 = Pt.z) ∧ (2 < q → need x.kind ≤ 2 → x.p2 = Pt.z))
   3 ⟨0, rfl, by omega, rfl, rfl, rfl, rfl, rfl, rfl, rfl, rfl, rfl, fun h => by omega, fun h => by omega, fun h => by omega⟩ ?_
  rintro n ρ' I1 L' ⟨q, rfl, hq3, rfl, r3, r5, r11, r12, r13, r35, r36, rfl, z0, z1, z2⟩
  refine ju7 r36 r35 r13 r12 r11 r5 r3 ?_
  have hcase : q = 0 ∨ q = 1 ∨ q = 2 ∨ q = 3 := by omega
  rcases hcase with rfl | rfl | rfl | rfl
  ·skip
   refine jS (jy rfl rfl (jM (jB (jF (jV (jA (jB (WC.block (jS (ja rfl (jm (Val.indexA (vs := x.p0.cs) rfl rfl (by decide) (by decide) rfl) ?_)))))))))))
   refine WL.alloc rfl (fun _ => ?_)
   refine jW ?_
   refine jf rfl (WL.stA 2 rfl rfl rfl rfl ?_)
   refine jN (ja rfl (jm (jn rfl) (jm (jp 1 rfl rfl rfl) (WL.callS rfl rfl (need_ctr x.kind _ hN) rfl ?_))))
   rintro _ rfl
   by_cases hn0 : need x.kind ≤ 0
   ·have hn' : (need x.kind : Int) ≤ 0 := by omega
    refine jm (Val.geq rfl rfl (decide_eq_true (by omega))) ?_
    refine jb rfl (jG (jm (jt 2 rfl rfl rfl) (jG (jm (Val.build0) ?_))))
    refine jG ?_
    refine WL.neS rfl rfl rfl rfl rfl (fun h => ?_) (fun h => ?_)
    refine jk rfl (jM (jF (jS (jf rfl (jM (jR (WX.inRet (jU (jU (WX.inRet (jU (WX.inRet (jU (jU (WX.inRet (jU ?_))))))))))))))))
    ·skip
     exact jP [] (jr1 rfl (jtI rfl)) ⟨rfl, rfl, by rw [fin 33 (by decide) (by rw [hc, if_pos (.inl ⟨hn0, fun e => h (by rw [e])⟩)])]⟩
    ·skip
     exact jk rfl (jM (jE (jV (WX.inNormal (jA (jD (jX rfl rfl (ja rfl (jC (WX.conv (fun w h => h.sub [0, 0] rfl) (WX.thenK (WK.round 2 (by omega) ⟨1, rfl, by omega, rfl, rfl, rfl, rfl, rfl, rfl, rfl, rfl, rfl, fun _ _ => Pt.inj h, fun h => by omega, fun h => by omega⟩))))))))))))
   ·have hn' : ¬ (need x.kind : Int) ≤ 0 := by omega
    refine jm (Val.geq rfl rfl (decide_eq_false (by omega))) ?_
    exact jb rfl (jH (jH (jH (jk rfl (jM (jE (jV (WX.inNormal (jA (jD (jX rfl rfl (ja rfl (jC (WX.conv (fun w h => h.sub [0, 0] rfl) (WX.thenK (WK.round 2 (by omega) ⟨1, rfl, by omega, rfl, rfl, rfl, rfl, rfl, rfl, rfl, rfl, rfl, fun _ h => absurd h hn0, fun h => by omega, fun h => by omega⟩))))))))))))))))
  ·skip
   refine jS (jy rfl rfl (jM (jB (jF (jV (jA (jB (WC.block (jS (ja rfl (jm (Val.indexA (vs := x.p1.cs) rfl rfl (by decide) (by decide) rfl) ?_)))))))))))
   refine WL.alloc rfl (fun _ => ?_)
   refine jW ?_
   refine jf rfl (WL.stA 2 rfl rfl rfl rfl ?_)
   refine jN (ja rfl (jm (jn rfl) (jm (jp 1 rfl rfl rfl) (WL.callS rfl rfl (need_ctr x.kind _ hN) rfl ?_))))
   rintro _ rfl
   by_cases hn0 : need x.kind ≤ 1
   ·have hn' : (need x.kind : Int) ≤ 1 := by omega
    refine jm (Val.geq rfl rfl (decide_eq_true (by omega))) ?_
    refine jb rfl (jG (jm (jt 2 rfl rfl rfl) (jG (jm (Val.build0) ?_))))
    refine jG ?_
    refine WL.neS rfl rfl rfl rfl rfl (fun h => ?_) (fun h => ?_)
    refine jk rfl (jM (jF (jS (jf rfl (jM (jR (WX.inRet (jU (jU (WX.inRet (jU (WX.inRet (jU (jU (WX.inRet (jU ?_))))))))))))))))
    ·skip
     exact jP [] (jr1 rfl (jtI rfl)) ⟨rfl, rfl, by rw [fin 33 (by decide) (by rw [hc, if_pos (.inr (.inl ⟨hn0, fun e => h (by rw [e])⟩))])]⟩
    ·skip
     exact jk rfl (jM (jE (jV (WX.inNormal (jA (jD (jX rfl rfl (ja rfl (jC (WX.conv (fun w h => h.sub [0, 0] rfl) (WX.thenK (WK.round 1 (by omega) ⟨2, rfl, by omega, rfl, rfl, rfl, rfl, rfl, rfl, rfl, rfl, rfl, fun _ => z0 (by omega), fun _ _ => Pt.inj h, fun h => by omega⟩))))))))))))
   ·have hn' : ¬ (need x.kind : Int) ≤ 1 := by omega
    refine jm (Val.geq rfl rfl (decide_eq_false (by omega))) ?_
    exact jb rfl (jH (jH (jH (jk rfl (jM (jE (jV (WX.inNormal (jA (jD (jX rfl rfl (ja rfl (jC (WX.conv (fun w h => h.sub [0, 0] rfl) (WX.thenK (WK.round 1 (by omega) ⟨2, rfl, by omega, rfl, rfl, rfl, rfl, rfl, rfl, rfl, rfl, rfl, fun _ => z0 (by omega), fun _ h => absurd h hn0, fun h => by omega⟩))))))))))))))))
  ·skip
   refine jS (jy rfl rfl (jM (jB (jF (jV (jA (jB (WC.block (jS (ja rfl (jm (Val.indexA (vs := x.p2.cs) rfl rfl (by decide) (by decide) rfl) ?_)))))))))))
   refine WL.alloc rfl (fun _ => ?_)
   refine jW ?_
   refine jf rfl (WL.stA 2 rfl rfl rfl rfl ?_)
   refine jN (ja rfl (jm (jn rfl) (jm (jp 1 rfl rfl rfl) (WL.callS rfl rfl (need_ctr x.kind _ hN) rfl ?_))))
   rintro _ rfl
   by_cases hn0 : need x.kind ≤ 2
   ·have hn' : (need x.kind : Int) ≤ 2 := by omega
    refine jm (Val.geq rfl rfl (decide_eq_true (by omega))) ?_
    refine jb rfl (jG (jm (jt 2 rfl rfl rfl) (jG (jm (Val.build0) ?_))))
    refine jG ?_
    refine WL.neS rfl rfl rfl rfl rfl (fun h => ?_) (fun h => ?_)
    refine jk rfl (jM (jF (jS (jf rfl (jM (jR (WX.inRet (jU (jU (WX.inRet (jU (WX.inRet (jU (jU (WX.inRet (jU ?_))))))))))))))))
    ·skip
     exact jP [] (jr1 rfl (jtI rfl)) ⟨rfl, rfl, by rw [fin 33 (by decide) (by rw [hc, if_pos (.inr (.inr ⟨hn0, fun e => h (by rw [e])⟩))])]⟩
    ·skip
     exact jk rfl (jM (jE (jV (WX.inNormal (jA (jD (jX rfl rfl (ja rfl (jC (WX.conv (fun w h => h.sub [0, 0] rfl) (WX.thenK (WK.round 0 (by omega) ⟨3, rfl, by omega, rfl, rfl, rfl, rfl, rfl, rfl, rfl, rfl, rfl, fun _ => z0 (by omega), fun _ => z1 (by omega), fun _ _ => Pt.inj h⟩))))))))))))
   ·have hn' : ¬ (need x.kind : Int) ≤ 2 := by omega
    refine jm (Val.geq rfl rfl (decide_eq_false (by omega))) ?_
    exact jb rfl (jH (jH (jH (jk rfl (jM (jE (jV (WX.inNormal (jA (jD (jX rfl rfl (ja rfl (jC (WX.conv (fun w h => h.sub [0, 0] rfl) (WX.thenK (WK.round 0 (by omega) ⟨3, rfl, by omega, rfl, rfl, rfl, rfl, rfl, rfl, rfl, rfl, rfl, fun _ => z0 (by omega), fun _ => z1 (by omega), fun _ h => absurd h hn0⟩))))))))))))))))
  ·have z0' := z0 (by omega)
   have z1' := z1 (by omega)
   have z2' := z2 (by omega)
   rw [if_neg (fun e => e.elim (fun e => e.2 (z0' e.1)) fun e => e.elim (fun e => e.2 (z1' e.1)) fun e => e.2 (z2' e.1))] at hc
   refine jS (jx rfl rfl (jM (jB (jE (WC.exit (WX.thenExit (WX.thenExit (WX.inHit (jA (jB (jS (WL.callK [1] rfl rfl rfl (points_ctr x g5 _ hN) rfl ?_))))))))))))
   rintro _ rfl
   skip
   refine WL.callK [1] rfl rfl rfl (contains_ctr x g5 (need x.kind) hn _) rfl ?_
   rintro _ ⟨bb, rfl, hbb⟩
   cases bb with
   | true =>
    obtain ⟨j, hj, hnj⟩ := hbb.1 rfl
    have h2 : (0 < need x.kind ∧ ¬ x.p0.inn) ∨ (1 < need x.kind ∧ ¬ x.p1.inn) ∨ (2 < need x.kind ∧ ¬ x.p2.inn) := by
     have hj3 : j = 0 ∨ j = 1 ∨ j = 2 := by omega
     rcases hj3 with rfl | rfl | rfl
     ·exact .inl ⟨hj, hnj⟩
     ·exact .inr (.inl ⟨hj, hnj⟩)
     ·exact .inr (.inr ⟨hj, hnj⟩)
    refine jM (jF (jS (jf rfl (jM (jR (jU (WX.inRet (jU (jU (WX.inRet (jU ?_)))))))))))
    exact jP [] (jr1 rfl (jtI rfl)) ⟨rfl, rfl, by rw [fin 30 (by decide) (by rw [hc, if_pos h2])]⟩
   | false =>
    have h2 : ¬ ((0 < need x.kind ∧ ¬ x.p0.inn) ∨ (1 < need x.kind ∧ ¬ x.p1.inn) ∨ (2 < need x.kind ∧ ¬ x.p2.inn)) := fun e => by
     have hno : ¬ ∃ k < need x.kind, ¬ (x.point k).inn := fun e => by
      have := hbb.2 e
      cases this
     rcases e with e | e | e
     ·exact hno ⟨0, e.1, e.2⟩
     ·exact hno ⟨1, e.1, e.2⟩
     ·exact hno ⟨2, e.1, e.2⟩
    rw [if_neg h2] at hc
    rw [if_neg (fun e => e hc)] at hgo
    rw [if_neg (fun e => e hc)]
    by_cases h5 : x.kind = 5
    ·omega
    ·rw [decide_eq_true h5] at hgo
     refine jM (jE (jV (jA (jD (jm (jn rfl) (jm (jp 1 rfl rfl rfl) (jJ rfl rfl (jg rfl (jC (WX.inNormal (jA (jD (jX rfl rfl (ja rfl (jC (WX.conv (fun w h => h.sub [0] rfl) ?_))))))))))))))))
     rw [decide_eq_true h5, ← hgo]
     exact WX.thenK (WK.round (l.length - (k + 1)) (by omega) ⟨k + 1, true, rfl, by omega, rfl, rfl, rfl, rfl, rfl, rfl, hgo⟩)
theorem atr_ctr (a : Atr) (b : Bool) (t u d q : Value) (I : Mem) (hN : NeedAt I) (ha : a.at_ I t u d q) : Ctr Tryz.prog 19 [.agg (a.cs t u d q).toArray, .bool b] I [] (Still I fun r => r = vi (a.check b)) := by
 have hs := ha.sty
 have hp := ha.path
 have hlb := hp.le
 obtain ⟨a1, c1, a2, c2, a3, c3, a4, c4, rfl, rfl, rfl, rfl⟩ := ha.sl
 refine Ctr.intro Tryz.func19 rfl rfl rfl fun E F => ?_
 refine jS (WL.boxA rfl rfl (fun _ => ?_))
 refine jW ?_
 refine jf rfl (jM (jB (jS (jm (jn rfl) (jm (jt 1 rfl rfl rfl) ?_)))))
 refine WL.callE rfl rfl (mtxRight_ctr a.mtx _) rfl (fun h1 => ?_) (fun h1 => ?_)
 case refine_2 =>
  refine jl rfl (jM (jF (jS (jf rfl (jM (jR (jU ?_)))))))
  exact jP [] (jr1 rfl (jtI rfl)) ⟨rfl, rfl, by rw [Atr.check, if_pos h1]⟩
 refine jl rfl (jM (jE (jV (jA (jB (jS (jm (jn rfl) (jm (jt 1 rfl rfl rfl) (WL.callS rfl rfl (sty_ctr a.sty _ _ _ _ hs) rfl ?_)))))))))
 rintro _ rfl
 by_cases h2 : a.sty.check = 0
 case neg =>
  refine jf rfl (jN (ja rfl (jJ rfl rfl (jM (jF (jS (ja rfl (jf rfl (jM (jR (jU ?_)))))))))))
  exact jP [] (jr1 rfl (jtI rfl)) ⟨rfl, rfl, by rw [Atr.check, if_neg (fun e => e h1), if_pos h2]⟩
 refine jf rfl (jN (ja rfl (jz rfl rfl (jM (jE (jV (jA (jB (jS (jm (jn rfl) (jm (jp 1 rfl rfl rfl) (WL.callS rfl rfl (path_ctr a.path _ _ hN hp) rfl ?_))))))))))))
 rintro _ rfl
 by_cases h3 : pathCheck a.path = 0
 case neg =>
  refine jf rfl (jN (ja rfl (jJ rfl rfl (jM (jF (jS (ja rfl (jf rfl (jM (jR (jU ?_)))))))))))
  exact jP [] (jr1 rfl (jtI rfl)) ⟨rfl, rfl, by rw [Atr.check, if_neg (fun e => e h1), if_neg (fun e => e h2), if_pos h3]⟩
 have hc : a.check b = if b = true ∧ 0 < a.path.length then 33 else 0 := by rw [Atr.check, if_neg (fun e => e h1), if_neg (fun e => e h2), if_neg (fun e => e h3)]
 rw [hc]
 by_cases h4 : 0 < a.path.length
 ·cases b with
  | true =>
   refine jf rfl (jN (ja rfl (jz rfl rfl (jM (jE (jV (jA (jB (jS (jb rfl (jb rfl (jG (jm (jn rfl) (jG (jm (jp 1 rfl rfl rfl) (jG (jm (jo rfl) (jG (jO rfl rfl (jk rfl (jM (jF (jS (jf rfl (jM (jR (jU ?_)))))))))))))))))))))))))))
   exact jP [] (jr1 rfl (jtI rfl)) ⟨rfl, rfl, by rw [if_pos ⟨rfl, h4⟩]⟩
  | false =>
   refine jf rfl (jN (ja rfl (jz rfl rfl (jM (jE (jV (jA (jB (jS (jb rfl (jb rfl (jH (jH (jH (jH (jk rfl (jM (jE (jV (jK (jf rfl (jM (jR ?_)))))))))))))))))))))))
   exact jP [] (jr1 rfl (jtI rfl)) ⟨rfl, rfl, by rw [if_neg (fun e => by cases e.1)]⟩
 ·cases b with
  | true =>
   refine jf rfl (jN (ja rfl (jz rfl rfl (jM (jE (jV (jA (jB (jS (jb rfl (jb rfl (jG (jm (jn rfl) (jG (jm (jp 1 rfl rfl rfl) (jG (jm (jo rfl) (jG (jL rfl rfl (jk rfl (jM (jE (jV (jK (jf rfl (jM (jR ?_)))))))))))))))))))))))))))
   exact jP [] (jr1 rfl (jtI rfl)) ⟨rfl, rfl, by rw [if_neg (fun e => h4 e.2)]⟩
  | false =>
   refine jf rfl (jN (ja rfl (jz rfl rfl (jM (jE (jV (jA (jB (jS (jb rfl (jb rfl (jH (jH (jH (jH (jk rfl (jM (jE (jV (jK (jf rfl (jM (jR ?_)))))))))))))))))))))))
   exact jP [] (jr1 rfl (jtI rfl)) ⟨rfl, rfl, by rw [if_neg (fun e => h4 e.2)]⟩
def NewL {α : Type} (R : Rep α) (e sz : Nat) (l : List α) (I : Mem) : Value → Mem → List HP → Prop := fun r I' L' => I' = I ∧ ∃ a c p, r = .slice a l.length c ∧ L' = [p] ∧ OwnL R e sz I l r p
theorem cloneSg (l : List Sg) (v : Value) (I : Mem) (hv : LsAt Sg.rep I l v) (hl : l.length ≤ 1000000000) : Ctr Tryz.prog 145 [v] I [] (NewL Sg.rep 57 7 l I) := by
 have hv0 := hv
 obtain ⟨a1, c1, rfl⟩ := hv0.sl
 refine Ctr.intro Tryz.func145 rfl rfl rfl fun E F => ?_
 cases a1 with
 | none =>
  have h0 : l = [] := by
   obtain ⟨css, ⟨a, cap, he, hc, h | ⟨b, off, h, _⟩⟩, h2⟩ := hv
   ·exact List.eq_nil_of_length_eq_zero h.1
   ·cases he; cases h
  subst h0
  refine jS (jh rfl (jM (jB (jS (jc rfl (jm (Val.eqlNil rfl) ?_))))))
  refine WL.slNil 57 7 ?_
  refine jW ?_
  refine jM (jF (jS (jh rfl (jM (jR (jU ?_))))))
  exact jP [0] (jr1 rfl (jtS rfl)) ⟨rfl, _, _, _, rfl, rfl, OwnL.nil _ _ _ _⟩
 | some a =>
  refine jS (jh rfl (jM (jB (jS (jc rfl (jm (Val.eqlNil rfl) ?_))))))
  refine jM (jE (jV (jK (WL.buildSlice (by with_unfolding_all exact rfl) rfl (by with_unfolding_all exact rfl) rfl (fun _ => ?_)))))
  refine jW ?_
  refine jc rfl (WL.boxSl (e := 57) (sz := 7) (n := 0) (xs := []) 1 rfl rfl (by decide) ?_)
  refine WL.appL (R := Sg.rep) (l := []) (m := l) 1 rfl rfl ⟨[], rfl, trivial⟩ rfl hv (fun x cs h => by rw [h.1]; rfl) (by rfl) (by decide) (by simp only [List.length_nil]; omega) (by unfold maxLen; simp only [List.length_nil]; omega) rfl fun aa cc p' hp' => ?_
  refine WL.nSet ?_
  refine jh rfl (jM (jR ?_))
  rw [List.nil_append] at hp' ⊢
  exact jP [0] (jr1 rfl (jtS rfl)) ⟨rfl, _, _, _, rfl, rfl, hp'⟩
theorem cloneStp (l : List Stp) (v : Value) (I : Mem) (hv : LsAt Stp.rep I l v) (hl : l.length ≤ 1000000000) : Ctr Tryz.prog 146 [v] I [] (NewL Stp.rep 203 5 l I) := by
 have hv0 := hv
 obtain ⟨a1, c1, rfl⟩ := hv0.sl
 refine Ctr.intro Tryz.func146 rfl rfl rfl fun E F => ?_
 cases a1 with
 | none =>
  have h0 : l = [] := by
   obtain ⟨css, ⟨a, cap, he, hc, h | ⟨b, off, h, _⟩⟩, h2⟩ := hv
   ·exact List.eq_nil_of_length_eq_zero h.1
   ·cases he; cases h
  subst h0
  refine jS (jh rfl (jM (jB (jS (jc rfl (jm (Val.eqlNil rfl) ?_))))))
  refine WL.slNil 203 5 ?_
  refine jW ?_
  refine jM (jF (jS (jh rfl (jM (jR (jU ?_))))))
  exact jP [0] (jr1 rfl (jtS rfl)) ⟨rfl, _, _, _, rfl, rfl, OwnL.nil _ _ _ _⟩
 | some a =>
  refine jS (jh rfl (jM (jB (jS (jc rfl (jm (Val.eqlNil rfl) ?_))))))
  refine jM (jE (jV (jK (WL.buildSlice (by with_unfolding_all exact rfl) rfl (by with_unfolding_all exact rfl) rfl (fun _ => ?_)))))
  refine jW ?_
  refine jc rfl (WL.boxSl (e := 203) (sz := 5) (n := 0) (xs := []) 1 rfl rfl (by decide) ?_)
  refine WL.appL (R := Stp.rep) (l := []) (m := l) 1 rfl rfl ⟨[], rfl, trivial⟩ rfl hv (fun x cs h => by rw [h.1]; rfl) (by rfl) (by decide) (by simp only [List.length_nil]; omega) (by unfold maxLen; simp only [List.length_nil]; omega) rfl fun aa cc p' hp' => ?_
  refine WL.nSet ?_
  refine jh rfl (jM (jR ?_))
  rw [List.nil_append] at hp' ⊢
  exact jP [0] (jr1 rfl (jtS rfl)) ⟨rfl, _, _, _, rfl, rfl, hp'⟩
theorem cloneI (l : List Int) (v : Value) (I : Mem) (hv : LsAt Ls.Int.rep I l v) (hl : l.length ≤ 1000000000) : Ctr Tryz.prog 119 [v] I [] (NewL Ls.Int.rep 3 1 l I) := by
 have hv0 := hv
 obtain ⟨a1, c1, rfl⟩ := hv0.sl
 refine Ctr.intro Tryz.func119 rfl rfl rfl fun E F => ?_
 cases a1 with
 | none =>
  have h0 : l = [] := by
   obtain ⟨css, ⟨a, cap, he, hc, h | ⟨b, off, h, _⟩⟩, h2⟩ := hv
   ·exact List.eq_nil_of_length_eq_zero h.1
   ·cases he; cases h
  subst h0
  refine jS (jh rfl (jM (jB (jS (jc rfl (jm (Val.eqlNil rfl) ?_))))))
  refine WL.slNil 3 1 ?_
  refine jW ?_
  refine jM (jF (jS (jh rfl (jM (jR (jU ?_))))))
  exact jP [0] (jr1 rfl (jtS rfl)) ⟨rfl, _, _, _, rfl, rfl, OwnL.nil _ _ _ _⟩
 | some a =>
  refine jS (jh rfl (jM (jB (jS (jc rfl (jm (Val.eqlNil rfl) ?_))))))
  refine jM (jE (jV (jK (WL.buildSlice (by with_unfolding_all exact rfl) rfl (by with_unfolding_all exact rfl) rfl (fun _ => ?_)))))
  refine jW ?_
  refine jc rfl (WL.boxSl (e := 3) (sz := 1) (n := 0) (xs := []) 1 rfl rfl (by decide) ?_)
  refine WL.appL (R := Ls.Int.rep) (l := []) (m := l) 1 rfl rfl ⟨[], rfl, trivial⟩ rfl hv (fun x cs h => by rw [h.1]; rfl) (by rfl) (by decide) (by simp only [List.length_nil]; omega) (by unfold maxLen; simp only [List.length_nil]; omega) rfl fun aa cc p' hp' => ?_
  refine WL.nSet ?_
  refine jh rfl (jM (jR ?_))
  rw [List.nil_append] at hp' ⊢
  exact jP [0] (jr1 rfl (jtS rfl)) ⟨rfl, _, _, _, rfl, rfl, hp'⟩
end Go.Proofs.YtggcpoleklcmkaaGreatDoor

namespace Go.Dc
open Go.Sl Go.Ls
def Atr.lim (a : Atr) : Prop := a.path.length ≤ 1000000 ∧ a.sty.fill.stops.length ≤ 1000000 ∧ a.sty.pen.stops.length ≤ 1000000 ∧ a.sty.dash.length ≤ 1000000
def Atr.small (a : Atr) : Prop := a.path.length ≤ 30 ∧ a.sty.fill.stops.length ≤ 30 ∧ a.sty.pen.stops.length ≤ 30 ∧ a.sty.dash.length ≤ 30
def AtrV (a : Atr) : Value → Mem → Prop := fun v I' => ∃ t u d q, v = .agg (a.cs t u d q).toArray ∧ a.at_ I' t u d q
def AtrN (a : Atr) (I0 : Mem) : Value → Mem → Prop := fun v I' => ∃ t u d q, v = .agg (a.cs t u d q).toArray ∧ a.at_ I' t u d q ∧ NewV I0 I' 57 q ∧ NewV I0 I' 3 d ∧ NewV I0 I' 203 t ∧ NewV I0 I' 203 u
theorem AtrN.mono {a : Atr} {I0 I I' : Mem} {v : Value} (h : AtrN a I0 v I) (hI : I.le I') : AtrN a I0 v I' := by
 obtain ⟨t, u, d, q, h1, h2, h3, h4, h5, h6⟩ := h
 exact ⟨t, u, d, q, h1, h2.mono hI, h3.mono hI, h4.mono hI, h5.mono hI, h6.mono hI⟩
theorem AtrN.less {a : Atr} {I0 I1 I : Mem} {v : Value} (h : AtrN a I1 v I) (hI : I0.le I1) : AtrN a I0 v I := by
 obtain ⟨t, u, d, q, h1, h2, h3, h4, h5, h6⟩ := h
 exact ⟨t, u, d, q, h1, h2, h3.less hI, h4.less hI, h5.less hI, h6.less hI⟩
def plainAtr : Atr := ⟨⟨65536, 0, 0, 65536, 0, 0⟩, ⟨Pnt.z, Pnt.z, 1, 0, 0, [], 0, 255, 0⟩, []⟩
end Go.Dc
namespace Go.Proofs.YtggcpoleklcmkaaGreatDoor
open Go.Sl Go.Ls Go.Dc
theorem smallAttr_ctr (a : Atr) (t u d q : Value) (I : Mem) (ha : a.at_ I t u d q) :
  Ctr Tryz.prog 14 [.agg (a.cs t u d q).toArray] I [] (Still I (EqP a.small)) := by
 obtain ⟨a1, c1, a2, c2, a3, c3, a4, c4, rfl, rfl, rfl, rfl⟩ := ha.sl
 refine Ctr.intro Tryz.func14 rfl rfl rfl fun E F => ?_
 refine jS (WL.boxA rfl rfl (fun _ => ?_))
 refine jW ?_
 refine jg rfl (jN (jm (jn rfl) (jm (jp 1 rfl rfl rfl) (jm (jo rfl) ?_))))
 refine WL.leI rfl rfl rfl (fun h => ?_) (fun h => ?_)
 refine jb rfl (jG (jm (jn rfl) (jG (jm (jn rfl) (jG (jm (jn rfl) (jG (jm (jp 1 rfl rfl rfl) (jG (jm (jo rfl) (jG ?_)))))))))))
 refine WL.leI rfl rfl rfl (fun h => ?_) (fun h => ?_)
 refine jk rfl (jb rfl (jG (jm (jn rfl) (jG (jm (jn rfl) (jG (jm (jn rfl) (jG (jm (jp 1 rfl rfl rfl) (jG (jm (jo rfl) (jG ?_))))))))))))
 refine WL.leI rfl rfl rfl (fun h => ?_) (fun h => ?_)
 refine jk rfl (jb rfl (jG (jm (jn rfl) (jG (jm (jn rfl) (jG (jm (jn rfl) (jG (jm (jp 1 rfl rfl rfl) (jG (jm (jo rfl) (jG ?_))))))))))))
 refine WL.leI rfl rfl rfl (fun h => ?_) (fun h => ?_)
 refine jk rfl (jg rfl (jM (jR ?_)))
 rotate_left
 refine jk rfl (jg rfl (jM (jR ?_)))
 rotate_left
 refine jk rfl (jb rfl (jH (jH (jH (jH (jH (jH (jk rfl (jg rfl (jM (jR ?_)))))))))))
 rotate_left
 refine jk rfl (jb rfl (jH (jH (jH (jH (jH (jH (jk rfl (jb rfl (jH (jH (jH (jH (jH (jH (jk rfl (jg rfl (jM (jR ?_)))))))))))))))))))
 rotate_left
 refine jb rfl (jH (jH (jH (jH (jH (jH (jk rfl (jb rfl (jH (jH (jH (jH (jH (jH (jk rfl (jb rfl (jH (jH (jH (jH (jH (jH (jk rfl (jg rfl (jM (jR ?_))))))))))))))))))))))))))
 rotate_left
 all_goals
  refine jP [] (jr1 rfl (jtB rfl)) ?_
 all_goals refine ⟨rfl, rfl, ?_⟩
 all_goals unfold Atr.small
 all_goals first | exact EqP.t (by omega) | exact EqP.f (by omega)
theorem scale_ctr (x y : Int) (I : Mem) : Ctr Tryz.prog 101 [vi x, vi y] I [] (Still I fun v => v = .agg #[vi x, vi 0, vi 0, vi y, vi 0, vi 0]) := by
 refine Ctr.intro Tryz.func101 rfl rfl rfl fun E F => ?_
 refine jS (WL.alloc rfl (fun _ => ?_))
 refine jW ?_
 refine jN (ja rfl (ja rfl (jm (Val.build (cs := [vi x, vi 0, vi 0, vi y, vi 0, vi 0]) rfl) ?_)))
 refine WL.stA 1 rfl rfl rfl rfl ?_
 refine jM (jR ?_)
 exact jP [] (jr1 rfl (jcL 1 rfl rfl rfl)) ⟨rfl, rfl, rfl⟩
theorem one_ctr (I : Mem) : Ctr Tryz.prog 63 [] I [] (Still I fun v => v = .agg #[vi 65536, vi 0, vi 0, vi 65536, vi 0, vi 0]) := by
 refine Ctr.intro Tryz.func63 rfl rfl rfl fun E F => ?_
 refine jS (WL.alloc rfl (fun _ => ?_))
 refine jW ?_
 refine jN (WL.callS rfl rfl (scale_ctr 65536 65536 _) rfl ?_)
 rintro _ rfl
 refine WL.stA 1 rfl rfl rfl rfl ?_
 refine jM (jR ?_)
 exact jP [] (jr1 rfl (jcL 1 rfl rfl rfl)) ⟨rfl, rfl, rfl⟩
theorem none_ctr (I : Mem) : Ctr Tryz.prog 64 [] I [] (Still I fun v => v = .agg (plainAtr.sty.cs (.slice none 0 0) (.slice none 0 0) (.slice none 0 0)).toArray) := by
 refine Ctr.intro Tryz.func64 rfl rfl rfl fun E F => ?_
 refine jS (WL.alloc rfl (fun _ => ?_))
 refine jW ?_
 refine jN (jm (Val.build (cs := (plainAtr.sty.cs (.slice none 0 0) (.slice none 0 0) (.slice none 0 0))) rfl) ?_)
 refine WL.stA 1 rfl rfl rfl rfl ?_
 refine jM (jR ?_)
 exact jP [] (jr1 rfl (jcL 1 rfl rfl rfl)) ⟨rfl, rfl, rfl⟩
theorem plain_ctr (I : Mem) : Ctr Tryz.prog 21 [] I [] (Still I fun v => v = .agg (plainAtr.cs (.slice none 0 0) (.slice none 0 0) (.slice none 0 0) (.slice none 0 0)).toArray) := by
 refine Ctr.intro Tryz.func21 rfl rfl rfl fun E F => ?_
 refine jS (WL.alloc rfl (fun _ => ?_))
 refine jW ?_
 refine jN (WL.callS rfl rfl (one_ctr _) rfl ?_)
 rintro _ rfl
 skip
 refine WL.callS rfl rfl (none_ctr _) rfl ?_
 rintro _ rfl
 skip
 refine jm (Val.build (cs := (plainAtr.cs (.slice none 0 0) (.slice none 0 0) (.slice none 0 0) (.slice none 0 0))) rfl) ?_
 refine WL.stA 1 rfl rfl rfl rfl ?_
 refine jM (jR ?_)
 exact jP [] (jr1 rfl (jcL 1 rfl rfl rfl)) ⟨rfl, rfl, rfl⟩
theorem copiedN_ctr (a : Atr) (t u d q : Value) (I : Mem) (ha : a.at_ I t u d q) (hl : a.lim) :
  Ctr Tryz.prog 110 [.agg (a.cs t u d q).toArray] I [] (KeepR [] (AtrN a I)) := by
 obtain ⟨l1, l2, l3, l4⟩ := hl
 refine Ctr.intro Tryz.func110 rfl rfl rfl fun E F => ?_
 refine jS (WL.boxA rfl rfl (fun _ => ?_))
 refine jW ?_
 refine WL.alloc rfl (fun _ => ?_)
 refine jW ?_
 refine jN (jm (jn rfl) (jm (jp 1 rfl rfl rfl) ?_))
 rename_i g1 g2
 refine WL.callP [] rfl rfl (cloneSg a.path q _ ha.path (by omega)) rfl ?_
 rintro _ I0 _ _ ⟨rfl, qa, qc, p, rfl, rfl, hp⟩
 refine jW ?_
 refine WL.freezeN 3 rfl hp fun I1 hI1 hq hnq => ?_
 have ha1 : a.at_ I1 t u d (.slice qa a.path.length qc) := ⟨ha.mtx, ha.sty.mono hI1, hq⟩
 refine jm (jn rfl) (WL.stS 1 rfl rfl rfl rfl ?_)
 refine jN (jm (jn rfl) (jm (jn rfl) (jm (jn rfl) (jm (jp 1 rfl rfl rfl) (WL.callP [] rfl rfl (cloneI a.sty.dash d _ ha1.sty.dash (by omega)) rfl ?_)))))
 rintro _ I2 _ _ ⟨rfl, da, dc, p2, rfl, rfl, hp2⟩
 refine jW ?_
 refine WL.freezeN 3 rfl hp2 fun I3 hI3 hd hnd => ?_
 have ha2 : a.at_ I3 t u (.slice da a.sty.dash.length dc) (.slice qa a.path.length qc) := by
  have h := ha1.mono hI3
  exact ⟨h.mtx, ⟨h.sty.fill, h.sty.pen, h.sty.rule, h.sty.half, h.sty.cap, hd, h.sty.phase, h.sty.opac, h.sty.mode⟩, h.path⟩
 refine jm (jn rfl) (jm (jn rfl) (jm (jn rfl) (WL.stS 1 rfl rfl rfl rfl ?_)))
 refine jM (jB (jS (jm (jn rfl) (jm (jn rfl) (jm (jn rfl) (jm (jn rfl) (WL.buildSlice (by with_unfolding_all exact rfl) rfl (by with_unfolding_all exact rfl) rfl (fun _ => ?_))))))))
 refine jW ?_
 refine jm (jo rfl) (ja rfl (jM (WC.block ?_)))
 rename_i g3
 refine WC.loop (fun n ρ' I' L' => ∃ (k : Nat) (t' u' : Value), n = 2 - k ∧ k ≤ 2 ∧ I3.le I' ∧ ρ' 1 = ptr g1 ∧ ρ' 2 = ptr g2 ∧ ρ' 21 = .slice (some ⟨g3, 0, none⟩) 2 2 ∧ ρ' 22 = vi 2 ∧ ρ' 23 = vi k ∧
   L' = [F, box g1 38 (a.cs t' u' (.slice da a.sty.dash.length dc) (.slice qa a.path.length qc)), box g2 38 [vi 0, vi 0, vi 0, vi 0, vi 0, vi 0, vi 0, .int .u8 0, .int .u8 0, .int .u8 0, .int .u8 0, vi 0, vi 0, vi 0, vi 0, .slice none 0 0, vi 0, .int .u8 0, .int .u8 0, .int .u8 0, .int .u8 0, vi 0, vi 0, vi 0, vi 0, .slice none 0 0, vi 0, vi 0, vi 0, .slice none 0 0, vi 0, vi 0, vi 0, .slice none 0 0], box g3 224 [.pointer (some ⟨g1, 6, none⟩), .pointer (some ⟨g1, 16, none⟩)]] ∧ a.at_ I' t' u' (.slice da a.sty.dash.length dc) (.slice qa a.path.length qc) ∧ (1 ≤ k → NewV I0 I' 203 t') ∧ (2 ≤ k → NewV I0 I' 203 u'))
  2 ⟨0, t, u, rfl, by omega, Mem.le.refl _, rfl, rfl, rfl, rfl, rfl, rfl, ha2, fun h => absurd h (by omega), fun h => absurd h (by omega)⟩ ?_
 rintro n ρ' I4 L' ⟨k, t', u', rfl, hk, hI4, r1, r2, r21, r22, r23, rfl, ha3, hn1, hn2⟩
 refine ju5 r23 r22 r21 r2 r1 ?_
 have hcase : k = 0 ∨ k = 1 ∨ k = 2 := by omega
 rcases hcase with rfl | rfl | rfl
 ·skip
  refine jS (jy rfl rfl (jM (jB (jF (jV (jA (jB (WC.block (jS (jm (jZ rfl rfl) (jm (jp 3 rfl rfl rfl) (ji rfl (jM (jD (jd rfl (jd rfl (jm (jr rfl) (jm (jn rfl) (jm (jp 1 rfl rfl rfl) (WL.callP [] rfl rfl (cloneStp a.sty.fill.stops t' _ ha3.sty.fill.stops (by omega)) rfl ?_))))))))))))))))))))
  rintro _ I5 _ _ ⟨rfl, ta, tc, p5, rfl, rfl, hp5⟩
  refine jW ?_
  refine WL.freezeN 4 rfl hp5 fun I6 hI6 ht hnt => ?_
  have ha4 : a.at_ I6 (.slice ta a.sty.fill.stops.length tc) u' (.slice da a.sty.dash.length dc) (.slice qa a.path.length qc) := by
   have h := ha3.mono hI6
   exact ⟨h.mtx, ⟨⟨h.sty.fill.kind, h.sty.fill.frm, h.sty.fill.to, ht⟩, h.sty.pen, h.sty.rule, h.sty.half, h.sty.cap, h.sty.dash, h.sty.phase, h.sty.opac, h.sty.mode⟩, h.path⟩
  refine jm (jr rfl) (jm (jn rfl) (WL.stS 1 rfl rfl rfl rfl ?_))
  exact jC (WX.inNormal (jA (jD (jX rfl rfl (ja rfl (jC (WX.thenK (WK.round 1 (by omega) ⟨1, _, _, rfl, by omega, hI4.trans hI6, rfl, rfl, rfl, rfl, rfl, rfl, ha4, fun _ => hnt.less (hI1.trans (hI3.trans hI4)), fun h => absurd h (by omega)⟩))))))))
 ·skip
  refine jS (jy rfl rfl (jM (jB (jF (jV (jA (jB (WC.block (jS (jm (jZ rfl rfl) (jm (jp 3 rfl rfl rfl) (ji rfl (jM (jD (jd rfl (jd rfl (jm (jr rfl) (jm (jn rfl) (jm (jp 1 rfl rfl rfl) (WL.callP [] rfl rfl (cloneStp a.sty.pen.stops u' _ ha3.sty.pen.stops (by omega)) rfl ?_))))))))))))))))))))
  rintro _ I5 _ _ ⟨rfl, ta, tc, p5, rfl, rfl, hp5⟩
  refine jW ?_
  refine WL.freezeN 4 rfl hp5 fun I6 hI6 ht hnt => ?_
  have ha4 : a.at_ I6 t' (.slice ta a.sty.pen.stops.length tc) (.slice da a.sty.dash.length dc) (.slice qa a.path.length qc) := by
   have h := ha3.mono hI6
   exact ⟨h.mtx, ⟨h.sty.fill, ⟨h.sty.pen.kind, h.sty.pen.frm, h.sty.pen.to, ht⟩, h.sty.rule, h.sty.half, h.sty.cap, h.sty.dash, h.sty.phase, h.sty.opac, h.sty.mode⟩, h.path⟩
  refine jm (jr rfl) (jm (jn rfl) (WL.stS 1 rfl rfl rfl rfl ?_))
  exact jC (WX.inNormal (jA (jD (jX rfl rfl (ja rfl (jC (WX.thenK (WK.round 0 (by omega) ⟨2, _, _, rfl, by omega, hI4.trans hI6, rfl, rfl, rfl, rfl, rfl, rfl, ha4, fun _ => (hn1 (by omega)).mono hI6, fun _ => hnt.less (hI1.trans (hI3.trans hI4))⟩))))))))
 ·obtain ⟨ta, tc, ua, uc, _, _, _, _, rfl, rfl, _, _⟩ := ha3.sl
  refine jS (jx rfl rfl (jM (jB (jE (WC.exit (WX.thenExit (WX.thenExit (WX.inHit (jK (jm (jt 1 rfl rfl rfl) (WL.stA 2 rfl rfl rfl rfl ?_)))))))))))
  refine jM (jR ?_)
  have hJ := hI1.trans (hI3.trans hI4)
  exact jP [] (jr1 rfl (jcL 2 rfl rfl rfl)) ⟨rfl, _, _, _, _, rfl, ha3, hnq.mono (hI3.trans hI4), (hnd.less hI1).mono hI4, hn1 (by omega), hn2 (by omega)⟩
theorem copied_ctr (a : Atr) (t u d q : Value) (I : Mem) (ha : a.at_ I t u d q) (hl : a.lim) :
  Ctr Tryz.prog 110 [.agg (a.cs t u d q).toArray] I [] (KeepR [] (AtrV a)) :=
 Ctr.mono (copiedN_ctr a t u d q I ha hl) fun v I' L' _ ⟨h1, t, u, d, q, h2, h3, _⟩ => ⟨h1, t, u, d, q, h2, h3⟩
end Go.Proofs.YtggcpoleklcmkaaGreatDoor
