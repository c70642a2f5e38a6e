/-
  Drawings, the walks: stops, dashes that are right.
-/
import Derived.Test.YtggcpoleklcmkaaGreatDoorZ2
import Derived.Test.YtggcpoleklcmkaaGreatDoorX5
import Derived.Test.YtggcpoleklcmkaaGreatDoorX3
import Derived.Test.YtggcpoleklcmkaaGreatDoorX2
namespace Go.Proofs.YtggcpoleklcmkaaGreatDoor
open Go.Sl Go.Ls Go.Dc
set_option maxRecDepth 100000
set_option maxHeartbeats 4000000
set_option linter.unusedVariables false
set_option linter.unusedSimpArgs false
-- PICKB
attribute [local irreducible] WC WL WX WK WA WAK Val Ctr RunRes ResIs Rd At sl box pt Exit.then Exit.inBlock bodyPost Code.wp wpList
theorem stopsGo_snoc : ∀ (l : List Stp) (ok : Bool) (b : Option Stp) (s : Stp), stopsGo ok b (l ++ [s]) = (stopsGo ok b l && decide (s.fits (l.getLast?.or b)))
  | [], ok, b, s => by rw [List.nil_append, stopsGo, stopsGo, stopsGo]; rfl
  | x :: l, ok, b, s => by
    rw [List.cons_append, stopsGo, stopsGo, stopsGo_snoc l]
    congr 2
    cases l with
    | nil => simp
    | cons y l => simp [List.getLast?_cons]
theorem stops_ctr (l : List Stp) (v : Value) (I : Mem) (hv : LsAt Stp.rep I l v) : Ctr Tryz.prog 95 [v] I [] (Still I fun r => r = vi (stopsCheck l)) := by
  have hlb := hv.le
  obtain ⟨a1, c1, rfl⟩ := hv.sl
  refine Ctr.intro Tryz.func95 rfl rfl rfl fun E F => ?_
  by_cases h1 : 1 ≤ l.length
  case neg =>
    have h0 : l = [] := List.eq_nil_of_length_eq_zero (by omega)
    subst h0
    refine WC.seq ?_
    refine WC.region ?_
    refine WL.val (Val.assignI rfl) rfl ?_
    refine WL.nil ?_
    refine WX.thenC ?_
    refine WC.seq ?_
    refine WC.region ?_
    refine WL.val (Val.moveS rfl) rfl ?_
    refine WL.val (Val.len rfl) rfl ?_
    refine WL.val (Val.geq rfl rfl (decide_eq_false (by omega))) rfl ?_
    refine WL.val (Val.moveB rfl) rfl ?_
    refine WL.gF rfl rfl rfl rfl ?_
    refine WL.gF rfl rfl rfl rfl ?_
    refine WL.gF rfl rfl rfl rfl ?_
    refine WL.val (Val.pick rfl) rfl ?_
    refine WL.val (Val.assignB rfl) rfl ?_
    refine WL.nil ?_
    refine WX.thenC ?_
    refine WC.seq ?_
    refine WC.seq ?_
    refine WC.region ?_
    refine WL.val (Val.moveS rfl) rfl ?_
    refine WL.val (Val.len rfl) rfl ?_
    refine WL.val (Val.moveI rfl) rfl ?_
    refine WL.nil ?_
    refine WX.thenC ?_
    refine WC.block ?_
    refine WC.loop (fun n ρ' I' L' => I' = I ∧ ρ' 3 = .bool false ∧ ρ' 15 = vi 0 ∧ ρ' 16 = vi 0 ∧ L' = [F]) 0 ⟨rfl, rfl, rfl, rfl, rfl⟩ ?_
    rintro n ρ' I0 L' ⟨rfl, r3, r15, r16, rfl⟩
    rw [← upd_self r16, ← upd_self r15, ← upd_self r3]
    refine WC.seq ?_
    refine WC.region ?_
    refine WL.val (Val.lss rfl rfl (decide_eq_false (by omega))) rfl ?_
    refine WL.nil ?_
    refine WX.thenC ?_
    refine WC.seq ?_
    refine WC.condF rfl ?_
    refine WC.exit ?_
    refine WX.thenExit ?_
    refine WX.thenExit ?_
    refine WX.inHit ?_
    refine WX.thenC ?_
    refine WC.seq ?_
    refine WC.seq ?_
    refine WC.region ?_
    refine WL.val (Val.moveB rfl) rfl ?_
    refine WL.val (Val.not rfl) rfl ?_
    refine WL.nil ?_
    refine WX.thenC ?_
    refine WC.condT rfl ?_
    refine WC.seq ?_
    refine WC.region ?_
    refine WL.val (Val.assignI rfl) rfl ?_
    refine WL.nil ?_
    refine WX.thenC ?_
    refine WC.ret ?_
    refine WX.thenRet ?_
    apply WX.doneP (ks := [])
    case hres => exact RunRes.r1 rfl (ResIs.tmpI rfl)
    case hI => first | exact Mem.le.refl _ | assumption
    exact ⟨rfl, rfl, rfl⟩
  have hc : stopsCheck l = if stopsGo (decide ((l.length : Int) ≤ 16)) none l = true then 0 else 30 := by
    rw [stopsCheck]
    congr 3
    exact decide_eq_decide.2 ⟨fun h => by omega, fun h => by omega⟩
  rw [hc]
  clear hc
  refine WC.seq ?_
  refine WC.region ?_
  refine WL.val (Val.assignI rfl) rfl ?_
  refine WL.nil ?_
  refine WX.thenC ?_
  refine WC.seq ?_
  refine WC.region ?_
  refine WL.val (Val.moveS rfl) rfl ?_
  refine WL.val (Val.len rfl) rfl ?_
  refine WL.val (Val.geq rfl rfl (decide_eq_true (by omega))) rfl ?_
  refine WL.val (Val.moveB rfl) rfl ?_
  refine WL.gT rfl rfl ?_
  refine WL.val (Val.moveS rfl) rfl ?_
  refine WL.gT rfl rfl ?_
  refine WL.val (Val.len rfl) rfl ?_
  refine WL.gT rfl rfl ?_
  refine WL.val (Val.leq rfl rfl rfl) rfl ?_
  refine WL.val (Val.pick rfl) rfl ?_
  refine WL.val (Val.assignB rfl) rfl ?_
  refine WL.nil ?_
  refine WX.thenC ?_
  refine WC.seq ?_
  refine WC.seq ?_
  refine WC.region ?_
  refine WL.val (Val.moveS rfl) rfl ?_
  refine WL.val (Val.len rfl) rfl ?_
  refine WL.val (Val.moveI rfl) rfl ?_
  refine WL.nil ?_
  refine WX.thenC ?_
  refine WC.block ?_
  generalize decide ((l.length : Int) ≤ 16) = okb
  refine WC.loop (fun n ρ' I' L' => ∃ (k : Nat) (ok : Bool), n = l.length - k ∧ k ≤ l.length ∧ I' = I ∧ ρ' 0 = .slice a1 l.length c1 ∧ ρ' 3 = .bool ok ∧ ρ' 14 = .slice a1 l.length c1 ∧ ρ' 15 = vi l.length ∧ ρ' 16 = vi k ∧ L' = [F] ∧ ok = stopsGo okb none (l.take k))
    l.length ⟨0, okb, rfl, by omega, rfl, rfl, rfl, rfl, rfl, rfl, rfl, rfl⟩ ?_
  rintro n ρ' I0 L' ⟨k, ok, rfl, hk, rfl, r0, r3, r14, r15, r16, rfl, hok⟩
  rw [← upd_self r16, ← upd_self r15, ← upd_self r14, ← upd_self r3, ← upd_self r0]
  clear r16 r15 r14 r3 r0
  by_cases hkn : k < l.length
  · obtain ⟨b, off, cap', cs, he, ⟨rfl, hi⟩, hA⟩ := hv.get k hkn
    cases he
    have hsn : stopsGo okb none (l.take (k + 1)) = (ok && decide (Stp.fits ((l.take k).getLast?.or none) l[k])) := by
      rw [List.take_succ_eq_append_getElem hkn, stopsGo_snoc, ← hok]
    generalize hx : l[k] = x at *
    have hgo : ∀ ok' : Bool, ok' = (ok && decide (Stp.fits ((l.take k).getLast?.or none) x)) → ok' = stopsGo okb none (l.take (k + 1)) := fun ok' h => h.trans hsn.symm
    refine WC.seq ?_
    refine WC.region ?_
    refine WL.val (Val.lss rfl rfl (decide_eq_true (by omega))) rfl ?_
    refine WL.nil ?_
    refine WX.thenC ?_
    refine WC.seq ?_
    refine WC.condT rfl ?_
    refine WC.skip ?_
    refine WX.thenC ?_
    refine WC.seq ?_
    refine WC.block ?_
    refine WC.seq ?_
    refine WC.region ?_
    refine WL.val (Val.moveI rfl) rfl ?_
    refine WL.val (Val.indexAddr rfl rfl (by omega) (by omega)) rfl ?_
    refine WL.val (Val.loadI rfl (by assumption) rfl) rfl ?_
    (refine WL.alloc rfl ?_; intro _)
    refine WL.nApp ?_
    refine WL.val (Val.assignI rfl) rfl ?_
    refine WL.stA 1 rfl rfl rfl rfl ?_
    refine WL.nil ?_
    refine WX.thenC ?_
    rename_i g5
    cases ok with
    | false =>
      refine WC.drawK 999 I0 [1] rfl (by kernel_rfl) rfl rfl ?_
      refine WA.take 0 rfl (by kernel_rfl) rfl (fun w h => (h.sub [1] rfl)) (Val.moveB rfl) rfl ?_
      refine WA.take 1 rfl (by kernel_rfl) rfl (fun w h => (h.sub [1] rfl)) (Val.moveB rfl) rfl ?_
      refine WA.takeGF 2 rfl (by kernel_rfl) rfl (fun w h => (h.sub [1] rfl)) rfl rfl rfl rfl ?_
      refine WA.takeGF 3 rfl (by kernel_rfl) rfl (fun w h => (h.sub [1] rfl)) rfl rfl rfl rfl ?_
      refine WA.takeGF 4 rfl (by kernel_rfl) rfl (fun w h => (h.sub [1] rfl)) rfl rfl rfl rfl ?_
      refine WA.take 5 rfl (by kernel_rfl) rfl (fun w h => (h.sub [1] rfl)) (Val.pick rfl) rfl ?_
      refine WA.take 6 rfl (by kernel_rfl) rfl (fun w h => (h.sub [1] rfl)) (Val.moveB rfl) rfl ?_
      refine WA.takeGF 7 rfl (by kernel_rfl) rfl (fun w h => (h.sub [1] rfl)) rfl rfl rfl rfl ?_
      refine WA.takeGF 8 rfl (by kernel_rfl) rfl (fun w h => (h.sub [1] rfl)) rfl rfl rfl rfl ?_
      refine WA.takeGF 9 rfl (by kernel_rfl) rfl (fun w h => (h.sub [1] rfl)) rfl rfl rfl rfl ?_
      refine WA.take 10 rfl (by kernel_rfl) rfl (fun w h => (h.sub [1] rfl)) (Val.pick rfl) rfl ?_
      refine WA.take 11 rfl (by kernel_rfl) rfl (fun w h => (h.sub [1] rfl)) (Val.moveB rfl) rfl ?_
      refine WA.takeGF 12 rfl (by kernel_rfl) rfl (fun w h => (h.sub [1] rfl)) rfl rfl rfl rfl ?_
      refine WA.takeGF 13 rfl (by kernel_rfl) rfl (fun w h => (h.sub [1] rfl)) rfl rfl rfl rfl ?_
      refine WA.takeGF 14 rfl (by kernel_rfl) rfl (fun w h => (h.sub [1] rfl)) rfl rfl rfl rfl ?_
      refine WA.take 15 rfl (by kernel_rfl) rfl (fun w h => (h.sub [1] rfl)) (Val.pick rfl) rfl ?_
      refine WA.take 16 rfl (by kernel_rfl) rfl (fun w h => (h.sub [1] rfl)) (Val.moveB rfl) rfl ?_
      refine WA.takeGF 17 rfl (by kernel_rfl) rfl (fun w h => (h.sub [1] rfl)) rfl rfl rfl rfl ?_
      refine WA.takeGF 18 rfl (by kernel_rfl) rfl (fun w h => (h.sub [1] rfl)) rfl rfl rfl rfl ?_
      refine WA.takeGF 19 rfl (by kernel_rfl) rfl (fun w h => (h.sub [1] rfl)) rfl rfl rfl rfl ?_
      refine WA.takeGU 20 rfl (by kernel_rfl) rfl (fun w h => (h.sub [1] rfl)) rfl rfl rfl ?_
      refine WA.takeGU 21 rfl (by kernel_rfl) rfl (fun w h => (h.sub [1] rfl)) rfl rfl rfl ?_
      refine WA.takeGU 22 rfl (by kernel_rfl) rfl (fun w h => (h.sub [1] rfl)) rfl rfl rfl ?_
      refine WA.takeGU 23 rfl (by kernel_rfl) rfl (fun w h => (h.sub [1] rfl)) rfl rfl rfl ?_
      refine WA.takeGU 24 rfl (by kernel_rfl) rfl (fun w h => (h.sub [1] rfl)) rfl rfl rfl ?_
      refine WA.takeGU 25 rfl (by kernel_rfl) rfl (fun w h => (h.sub [1] rfl)) rfl rfl rfl ?_
      refine WA.takeGU 26 rfl (by kernel_rfl) rfl (fun w h => (h.sub [1] rfl)) rfl rfl rfl ?_
      refine WA.takeGU 27 rfl (by kernel_rfl) rfl (fun w h => (h.sub [1] rfl)) rfl rfl rfl ?_
      refine WA.takeGU 28 rfl (by kernel_rfl) rfl (fun w h => (h.sub [1] rfl)) rfl rfl rfl ?_
      refine WA.takeGF 29 rfl (by kernel_rfl) rfl (fun w h => (h.sub [1] rfl)) rfl rfl rfl rfl ?_
      refine WA.take 30 rfl (by kernel_rfl) rfl (fun w h => (h.sub [1] rfl)) (Val.pick rfl) rfl ?_
      refine WA.take 31 rfl (by kernel_rfl) rfl (fun w h => (h.sub [1] rfl)) (Val.assignB rfl) rfl ?_
      refine WA.done (by kernel_rfl) ?_
      refine WX.inNormal ?_
      refine WX.thenC ?_
      refine WC.region ?_
      refine WL.val (Val.add rfl rfl (wrap_i64 (by omega) (by omega))) rfl ?_
      refine WL.val (Val.moveI rfl) rfl ?_
      refine WL.nil ?_
      refine WX.conv (fun w h => h.sub [0] rfl) ?_
      exact WX.thenK (WK.round (l.length - (k + 1)) (by omega) ⟨k + 1, false, rfl, by omega, rfl, rfl, rfl, rfl, rfl, rfl, rfl, hgo _ (by rw [Bool.false_and])⟩)
    | true =>
      by_cases p0 : 0 ≤ x.pos
      case neg =>
        refine WC.drawK 999 I0 [1] rfl (by kernel_rfl) rfl rfl ?_
        refine WA.take 0 rfl (by kernel_rfl) rfl (fun w h => (h.sub [1] rfl)) (Val.moveB rfl) rfl ?_
        refine WA.take 1 rfl (by kernel_rfl) rfl (fun w h => (h.sub [1] rfl)) (Val.moveB rfl) rfl ?_
        refine WA.takeGT 2 rfl (by kernel_rfl) rfl (fun w h => (h.sub [1] rfl)) rfl rfl (Val.fldAddr rfl) rfl ?_
        refine WA.takeGT 3 rfl (by kernel_rfl) rfl (fun w h => (h.sub [1] rfl)) rfl rfl (Val.loadS rfl (Rd.own1 0 rfl rfl)) rfl ?_
        refine WA.takeGT 4 rfl (by kernel_rfl) rfl (fun w h => (h.sub [1] rfl)) rfl rfl (Val.geq rfl rfl (decide_eq_false (by omega))) rfl ?_
        refine WA.take 5 rfl (by kernel_rfl) rfl (fun w h => (h.sub [1] rfl)) (Val.pick rfl) rfl ?_
        refine WA.take 6 rfl (by kernel_rfl) rfl (fun w h => (h.sub [1] rfl)) (Val.moveB rfl) rfl ?_
        refine WA.takeGF 7 rfl (by kernel_rfl) rfl (fun w h => (h.sub [1] rfl)) rfl rfl rfl rfl ?_
        refine WA.takeGF 8 rfl (by kernel_rfl) rfl (fun w h => (h.sub [1] rfl)) rfl rfl rfl rfl ?_
        refine WA.takeGF 9 rfl (by kernel_rfl) rfl (fun w h => (h.sub [1] rfl)) rfl rfl rfl rfl ?_
        refine WA.take 10 rfl (by kernel_rfl) rfl (fun w h => (h.sub [1] rfl)) (Val.pick rfl) rfl ?_
        refine WA.take 11 rfl (by kernel_rfl) rfl (fun w h => (h.sub [1] rfl)) (Val.moveB rfl) rfl ?_
        refine WA.takeGF 12 rfl (by kernel_rfl) rfl (fun w h => (h.sub [1] rfl)) rfl rfl rfl rfl ?_
        refine WA.takeGF 13 rfl (by kernel_rfl) rfl (fun w h => (h.sub [1] rfl)) rfl rfl rfl rfl ?_
        refine WA.takeGF 14 rfl (by kernel_rfl) rfl (fun w h => (h.sub [1] rfl)) rfl rfl rfl rfl ?_
        refine WA.take 15 rfl (by kernel_rfl) rfl (fun w h => (h.sub [1] rfl)) (Val.pick rfl) rfl ?_
        refine WA.take 16 rfl (by kernel_rfl) rfl (fun w h => (h.sub [1] rfl)) (Val.moveB rfl) rfl ?_
        refine WA.takeGF 17 rfl (by kernel_rfl) rfl (fun w h => (h.sub [1] rfl)) rfl rfl rfl rfl ?_
        refine WA.takeGF 18 rfl (by kernel_rfl) rfl (fun w h => (h.sub [1] rfl)) rfl rfl rfl rfl ?_
        refine WA.takeGF 19 rfl (by kernel_rfl) rfl (fun w h => (h.sub [1] rfl)) rfl rfl rfl rfl ?_
        refine WA.takeGU 20 rfl (by kernel_rfl) rfl (fun w h => (h.sub [1] rfl)) rfl rfl rfl ?_
        refine WA.takeGU 21 rfl (by kernel_rfl) rfl (fun w h => (h.sub [1] rfl)) rfl rfl rfl ?_
        refine WA.takeGU 22 rfl (by kernel_rfl) rfl (fun w h => (h.sub [1] rfl)) rfl rfl rfl ?_
        refine WA.takeGU 23 rfl (by kernel_rfl) rfl (fun w h => (h.sub [1] rfl)) rfl rfl rfl ?_
        refine WA.takeGU 24 rfl (by kernel_rfl) rfl (fun w h => (h.sub [1] rfl)) rfl rfl rfl ?_
        refine WA.takeGU 25 rfl (by kernel_rfl) rfl (fun w h => (h.sub [1] rfl)) rfl rfl rfl ?_
        refine WA.takeGU 26 rfl (by kernel_rfl) rfl (fun w h => (h.sub [1] rfl)) rfl rfl rfl ?_
        refine WA.takeGU 27 rfl (by kernel_rfl) rfl (fun w h => (h.sub [1] rfl)) rfl rfl rfl ?_
        refine WA.takeGU 28 rfl (by kernel_rfl) rfl (fun w h => (h.sub [1] rfl)) rfl rfl rfl ?_
        refine WA.takeGF 29 rfl (by kernel_rfl) rfl (fun w h => (h.sub [1] rfl)) rfl rfl rfl rfl ?_
        refine WA.take 30 rfl (by kernel_rfl) rfl (fun w h => (h.sub [1] rfl)) (Val.pick rfl) rfl ?_
        refine WA.take 31 rfl (by kernel_rfl) rfl (fun w h => (h.sub [1] rfl)) (Val.assignB rfl) rfl ?_
        refine WA.done (by kernel_rfl) ?_
        refine WX.inNormal ?_
        refine WX.thenC ?_
        refine WC.region ?_
        refine WL.val (Val.add rfl rfl (wrap_i64 (by omega) (by omega))) rfl ?_
        refine WL.val (Val.moveI rfl) rfl ?_
        refine WL.nil ?_
        refine WX.conv (fun w h => h.sub [0] rfl) ?_
        exact WX.thenK (WK.round (l.length - (k + 1)) (by omega) ⟨k + 1, false, rfl, by omega, rfl, rfl, rfl, rfl, rfl, rfl, rfl, hgo _ (by rw [Bool.true_and]; exact (decide_eq_false fun e => p0 e.1).symm)⟩)
      by_cases p1 : x.pos ≤ 65536
      case neg =>
        refine WC.drawK 999 I0 [1] rfl (by kernel_rfl) rfl rfl ?_
        refine WA.take 0 rfl (by kernel_rfl) rfl (fun w h => (h.sub [1] rfl)) (Val.moveB rfl) rfl ?_
        refine WA.take 1 rfl (by kernel_rfl) rfl (fun w h => (h.sub [1] rfl)) (Val.moveB rfl) rfl ?_
        refine WA.takeGT 2 rfl (by kernel_rfl) rfl (fun w h => (h.sub [1] rfl)) rfl rfl (Val.fldAddr rfl) rfl ?_
        refine WA.takeGT 3 rfl (by kernel_rfl) rfl (fun w h => (h.sub [1] rfl)) rfl rfl (Val.loadS rfl (Rd.own1 0 rfl rfl)) rfl ?_
        refine WA.takeGT 4 rfl (by kernel_rfl) rfl (fun w h => (h.sub [1] rfl)) rfl rfl (Val.geq rfl rfl (decide_eq_true (by omega))) rfl ?_
        refine WA.take 5 rfl (by kernel_rfl) rfl (fun w h => (h.sub [1] rfl)) (Val.pick rfl) rfl ?_
        refine WA.take 6 rfl (by kernel_rfl) rfl (fun w h => (h.sub [1] rfl)) (Val.moveB rfl) rfl ?_
        refine WA.takeGT 7 rfl (by kernel_rfl) rfl (fun w h => (h.sub [1] rfl)) rfl rfl (Val.fldAddr rfl) rfl ?_
        refine WA.takeGT 8 rfl (by kernel_rfl) rfl (fun w h => (h.sub [1] rfl)) rfl rfl (Val.loadS rfl (Rd.own1 0 rfl rfl)) rfl ?_
        refine WA.takeGT 9 rfl (by kernel_rfl) rfl (fun w h => (h.sub [1] rfl)) rfl rfl (Val.leq rfl rfl (decide_eq_false (by omega))) rfl ?_
        refine WA.take 10 rfl (by kernel_rfl) rfl (fun w h => (h.sub [1] rfl)) (Val.pick rfl) rfl ?_
        refine WA.take 11 rfl (by kernel_rfl) rfl (fun w h => (h.sub [1] rfl)) (Val.moveB rfl) rfl ?_
        refine WA.takeGF 12 rfl (by kernel_rfl) rfl (fun w h => (h.sub [1] rfl)) rfl rfl rfl rfl ?_
        refine WA.takeGF 13 rfl (by kernel_rfl) rfl (fun w h => (h.sub [1] rfl)) rfl rfl rfl rfl ?_
        refine WA.takeGF 14 rfl (by kernel_rfl) rfl (fun w h => (h.sub [1] rfl)) rfl rfl rfl rfl ?_
        refine WA.take 15 rfl (by kernel_rfl) rfl (fun w h => (h.sub [1] rfl)) (Val.pick rfl) rfl ?_
        refine WA.take 16 rfl (by kernel_rfl) rfl (fun w h => (h.sub [1] rfl)) (Val.moveB rfl) rfl ?_
        refine WA.takeGF 17 rfl (by kernel_rfl) rfl (fun w h => (h.sub [1] rfl)) rfl rfl rfl rfl ?_
        refine WA.takeGF 18 rfl (by kernel_rfl) rfl (fun w h => (h.sub [1] rfl)) rfl rfl rfl rfl ?_
        refine WA.takeGF 19 rfl (by kernel_rfl) rfl (fun w h => (h.sub [1] rfl)) rfl rfl rfl rfl ?_
        refine WA.takeGU 20 rfl (by kernel_rfl) rfl (fun w h => (h.sub [1] rfl)) rfl rfl rfl ?_
        refine WA.takeGU 21 rfl (by kernel_rfl) rfl (fun w h => (h.sub [1] rfl)) rfl rfl rfl ?_
        refine WA.takeGU 22 rfl (by kernel_rfl) rfl (fun w h => (h.sub [1] rfl)) rfl rfl rfl ?_
        refine WA.takeGU 23 rfl (by kernel_rfl) rfl (fun w h => (h.sub [1] rfl)) rfl rfl rfl ?_
        refine WA.takeGU 24 rfl (by kernel_rfl) rfl (fun w h => (h.sub [1] rfl)) rfl rfl rfl ?_
        refine WA.takeGU 25 rfl (by kernel_rfl) rfl (fun w h => (h.sub [1] rfl)) rfl rfl rfl ?_
        refine WA.takeGU 26 rfl (by kernel_rfl) rfl (fun w h => (h.sub [1] rfl)) rfl rfl rfl ?_
        refine WA.takeGU 27 rfl (by kernel_rfl) rfl (fun w h => (h.sub [1] rfl)) rfl rfl rfl ?_
        refine WA.takeGU 28 rfl (by kernel_rfl) rfl (fun w h => (h.sub [1] rfl)) rfl rfl rfl ?_
        refine WA.takeGF 29 rfl (by kernel_rfl) rfl (fun w h => (h.sub [1] rfl)) rfl rfl rfl rfl ?_
        refine WA.take 30 rfl (by kernel_rfl) rfl (fun w h => (h.sub [1] rfl)) (Val.pick rfl) rfl ?_
        refine WA.take 31 rfl (by kernel_rfl) rfl (fun w h => (h.sub [1] rfl)) (Val.assignB rfl) rfl ?_
        refine WA.done (by kernel_rfl) ?_
        refine WX.inNormal ?_
        refine WX.thenC ?_
        refine WC.region ?_
        refine WL.val (Val.add rfl rfl (wrap_i64 (by omega) (by omega))) rfl ?_
        refine WL.val (Val.moveI rfl) rfl ?_
        refine WL.nil ?_
        refine WX.conv (fun w h => h.sub [0] rfl) ?_
        exact WX.thenK (WK.round (l.length - (k + 1)) (by omega) ⟨k + 1, false, rfl, by omega, rfl, rfl, rfl, rfl, rfl, rfl, rfl, hgo _ (by rw [Bool.true_and]; exact (decide_eq_false fun e => p1 e.2.1).symm)⟩)
      by_cases k0 : k = 0
      · subst k0
        refine WC.drawK 999 I0 [1] rfl (by kernel_rfl) rfl rfl ?_
        refine WA.take 0 rfl (by kernel_rfl) rfl (fun w h => (h.sub [1] rfl)) (Val.moveB rfl) rfl ?_
        refine WA.take 1 rfl (by kernel_rfl) rfl (fun w h => (h.sub [1] rfl)) (Val.moveB rfl) rfl ?_
        refine WA.takeGT 2 rfl (by kernel_rfl) rfl (fun w h => (h.sub [1] rfl)) rfl rfl (Val.fldAddr rfl) rfl ?_
        refine WA.takeGT 3 rfl (by kernel_rfl) rfl (fun w h => (h.sub [1] rfl)) rfl rfl (Val.loadS rfl (Rd.own1 0 rfl rfl)) rfl ?_
        refine WA.takeGT 4 rfl (by kernel_rfl) rfl (fun w h => (h.sub [1] rfl)) rfl rfl (Val.geq rfl rfl (decide_eq_true (by omega))) rfl ?_
        refine WA.take 5 rfl (by kernel_rfl) rfl (fun w h => (h.sub [1] rfl)) (Val.pick rfl) rfl ?_
        refine WA.take 6 rfl (by kernel_rfl) rfl (fun w h => (h.sub [1] rfl)) (Val.moveB rfl) rfl ?_
        refine WA.takeGT 7 rfl (by kernel_rfl) rfl (fun w h => (h.sub [1] rfl)) rfl rfl (Val.fldAddr rfl) rfl ?_
        refine WA.takeGT 8 rfl (by kernel_rfl) rfl (fun w h => (h.sub [1] rfl)) rfl rfl (Val.loadS rfl (Rd.own1 0 rfl rfl)) rfl ?_
        refine WA.takeGT 9 rfl (by kernel_rfl) rfl (fun w h => (h.sub [1] rfl)) rfl rfl (Val.leq rfl rfl (decide_eq_true (by omega))) rfl ?_
        refine WA.take 10 rfl (by kernel_rfl) rfl (fun w h => (h.sub [1] rfl)) (Val.pick rfl) rfl ?_
        refine WA.take 11 rfl (by kernel_rfl) rfl (fun w h => (h.sub [1] rfl)) (Val.moveB rfl) rfl ?_
        refine WA.takeGT 12 rfl (by kernel_rfl) rfl (fun w h => (h.sub [1] rfl)) rfl rfl (Val.fldAddr rfl) rfl ?_
        refine WA.takeGT 13 rfl (by kernel_rfl) rfl (fun w h => (h.sub [1] rfl)) rfl rfl (Val.ldO 0 rfl rfl rfl) rfl ?_
        refine WA.eff1 (i := 14) (by kernel_rfl) rfl rfl ?_
        refine WL.gT rfl rfl ?_
        refine WL.callE rfl rfl (colRight_ctr x.col _) rfl (fun h => ?_) (fun h => ?_)
        · skip
          refine WL.nil ?_
          refine WK.anyStep (fun w h => (h.sub [1] rfl)) ?_
          refine WA.take 15 rfl (by kernel_rfl) rfl (fun w h => (h.sub [1] rfl)) (Val.pick rfl) rfl ?_
          refine WA.take 16 rfl (by kernel_rfl) rfl (fun w h => (h.sub [1] rfl)) (Val.moveB rfl) rfl ?_
          refine WA.takeGT 17 rfl (by kernel_rfl) rfl (fun w h => (h.sub [1] rfl)) rfl rfl (Val.moveI rfl) rfl ?_
          refine WA.takeGT 18 rfl (by kernel_rfl) rfl (fun w h => (h.sub [1] rfl)) rfl rfl (Val.eql rfl rfl (beq_iff_eq.2 (by omega))) rfl ?_
          refine WA.takeGT 19 rfl (by kernel_rfl) rfl (fun w h => (h.sub [1] rfl)) rfl rfl (Val.moveB rfl) rfl ?_
          refine WA.takeGF 20 rfl (by kernel_rfl) rfl (fun w h => (h.sub [1] rfl)) rfl rfl rfl rfl ?_
          refine WA.takeGF 21 rfl (by kernel_rfl) rfl (fun w h => (h.sub [1] rfl)) rfl rfl rfl rfl ?_
          refine WA.takeGF 22 rfl (by kernel_rfl) rfl (fun w h => (h.sub [1] rfl)) rfl rfl rfl rfl ?_
          refine WA.takeGF 23 rfl (by kernel_rfl) rfl (fun w h => (h.sub [1] rfl)) rfl rfl rfl rfl ?_
          refine WA.takeGF 24 rfl (by kernel_rfl) rfl (fun w h => (h.sub [1] rfl)) rfl rfl rfl rfl ?_
          refine WA.takeGF 25 rfl (by kernel_rfl) rfl (fun w h => (h.sub [1] rfl)) rfl rfl rfl rfl ?_
          refine WA.takeGF 26 rfl (by kernel_rfl) rfl (fun w h => (h.sub [1] rfl)) rfl rfl rfl rfl ?_
          refine WA.takeGF 27 rfl (by kernel_rfl) rfl (fun w h => (h.sub [1] rfl)) rfl rfl rfl rfl ?_
          refine WA.takeGF 28 rfl (by kernel_rfl) rfl (fun w h => (h.sub [1] rfl)) rfl rfl rfl rfl ?_
          refine WA.takeGT 29 rfl (by kernel_rfl) rfl (fun w h => (h.sub [1] rfl)) rfl rfl (Val.pick rfl) rfl ?_
          refine WA.take 30 rfl (by kernel_rfl) rfl (fun w h => (h.sub [1] rfl)) (Val.pick rfl) rfl ?_
          refine WA.take 31 rfl (by kernel_rfl) rfl (fun w h => (h.sub [1] rfl)) (Val.assignB rfl) rfl ?_
          refine WA.done (by kernel_rfl) ?_
          refine WX.inNormal ?_
          refine WX.thenC ?_
          refine WC.region ?_
          refine WL.val (Val.add rfl rfl (wrap_i64 (by omega) (by omega))) rfl ?_
          refine WL.val (Val.moveI rfl) rfl ?_
          refine WL.nil ?_
          refine WX.conv (fun w h => h.sub [0] rfl) ?_
          exact WX.thenK (WK.round (l.length - (0 + 1)) (by omega) ⟨0 + 1, true, rfl, by omega, rfl, rfl, rfl, rfl, rfl, rfl, rfl, hgo _ (by rw [Bool.true_and]; exact (decide_eq_true ⟨p0, p1, h, fun q e => by cases e⟩).symm)⟩)
        · skip
          refine WL.nil ?_
          refine WK.anyStep (fun w h => (h.sub [1] rfl)) ?_
          refine WA.take 15 rfl (by kernel_rfl) rfl (fun w h => (h.sub [1] rfl)) (Val.pick rfl) rfl ?_
          refine WA.take 16 rfl (by kernel_rfl) rfl (fun w h => (h.sub [1] rfl)) (Val.moveB rfl) rfl ?_
          refine WA.takeGF 17 rfl (by kernel_rfl) rfl (fun w h => (h.sub [1] rfl)) rfl rfl rfl rfl ?_
          refine WA.takeGF 18 rfl (by kernel_rfl) rfl (fun w h => (h.sub [1] rfl)) rfl rfl rfl rfl ?_
          refine WA.takeGF 19 rfl (by kernel_rfl) rfl (fun w h => (h.sub [1] rfl)) rfl rfl rfl rfl ?_
          refine WA.takeGU 20 rfl (by kernel_rfl) rfl (fun w h => (h.sub [1] rfl)) rfl rfl rfl ?_
          refine WA.takeGU 21 rfl (by kernel_rfl) rfl (fun w h => (h.sub [1] rfl)) rfl rfl rfl ?_
          refine WA.takeGU 22 rfl (by kernel_rfl) rfl (fun w h => (h.sub [1] rfl)) rfl rfl rfl ?_
          refine WA.takeGU 23 rfl (by kernel_rfl) rfl (fun w h => (h.sub [1] rfl)) rfl rfl rfl ?_
          refine WA.takeGU 24 rfl (by kernel_rfl) rfl (fun w h => (h.sub [1] rfl)) rfl rfl rfl ?_
          refine WA.takeGU 25 rfl (by kernel_rfl) rfl (fun w h => (h.sub [1] rfl)) rfl rfl rfl ?_
          refine WA.takeGU 26 rfl (by kernel_rfl) rfl (fun w h => (h.sub [1] rfl)) rfl rfl rfl ?_
          refine WA.takeGU 27 rfl (by kernel_rfl) rfl (fun w h => (h.sub [1] rfl)) rfl rfl rfl ?_
          refine WA.takeGU 28 rfl (by kernel_rfl) rfl (fun w h => (h.sub [1] rfl)) rfl rfl rfl ?_
          refine WA.takeGF 29 rfl (by kernel_rfl) rfl (fun w h => (h.sub [1] rfl)) rfl rfl rfl rfl ?_
          refine WA.take 30 rfl (by kernel_rfl) rfl (fun w h => (h.sub [1] rfl)) (Val.pick rfl) rfl ?_
          refine WA.take 31 rfl (by kernel_rfl) rfl (fun w h => (h.sub [1] rfl)) (Val.assignB rfl) rfl ?_
          refine WA.done (by kernel_rfl) ?_
          refine WX.inNormal ?_
          refine WX.thenC ?_
          refine WC.region ?_
          refine WL.val (Val.add rfl rfl (wrap_i64 (by omega) (by omega))) rfl ?_
          refine WL.val (Val.moveI rfl) rfl ?_
          refine WL.nil ?_
          refine WX.conv (fun w h => h.sub [0] rfl) ?_
          exact WX.thenK (WK.round (l.length - (0 + 1)) (by omega) ⟨0 + 1, false, rfl, by omega, rfl, rfl, rfl, rfl, rfl, rfl, rfl, hgo _ (by rw [Bool.true_and]; exact (decide_eq_false fun e => h e.2.2.1).symm)⟩)
      · obtain ⟨j, rfl⟩ : ∃ j, k = j + 1 := ⟨k - 1, by omega⟩
        obtain ⟨b2, off2, cap2, cs2, he2, ⟨rfl, hi2⟩, hA2⟩ := hv.get j (by omega)
        cases he2
        have hlast : (l.take (j + 1)).getLast? = some l[j] := by rw [List.take_succ_eq_append_getElem (by omega)]; exact List.getLast?_concat
        rw [hlast] at hgo
        generalize l[j] = y at *
        by_cases p2 : y.pos ≤ x.pos
        · skip
          refine WC.drawK 999 I0 [1] rfl (by kernel_rfl) rfl rfl ?_
          refine WA.take 0 rfl (by kernel_rfl) rfl (fun w h => (h.sub [1] rfl)) (Val.moveB rfl) rfl ?_
          refine WA.take 1 rfl (by kernel_rfl) rfl (fun w h => (h.sub [1] rfl)) (Val.moveB rfl) rfl ?_
          refine WA.takeGT 2 rfl (by kernel_rfl) rfl (fun w h => (h.sub [1] rfl)) rfl rfl (Val.fldAddr rfl) rfl ?_
          refine WA.takeGT 3 rfl (by kernel_rfl) rfl (fun w h => (h.sub [1] rfl)) rfl rfl (Val.loadS rfl (Rd.own1 0 rfl rfl)) rfl ?_
          refine WA.takeGT 4 rfl (by kernel_rfl) rfl (fun w h => (h.sub [1] rfl)) rfl rfl (Val.geq rfl rfl (decide_eq_true (by omega))) rfl ?_
          refine WA.take 5 rfl (by kernel_rfl) rfl (fun w h => (h.sub [1] rfl)) (Val.pick rfl) rfl ?_
          refine WA.take 6 rfl (by kernel_rfl) rfl (fun w h => (h.sub [1] rfl)) (Val.moveB rfl) rfl ?_
          refine WA.takeGT 7 rfl (by kernel_rfl) rfl (fun w h => (h.sub [1] rfl)) rfl rfl (Val.fldAddr rfl) rfl ?_
          refine WA.takeGT 8 rfl (by kernel_rfl) rfl (fun w h => (h.sub [1] rfl)) rfl rfl (Val.loadS rfl (Rd.own1 0 rfl rfl)) rfl ?_
          refine WA.takeGT 9 rfl (by kernel_rfl) rfl (fun w h => (h.sub [1] rfl)) rfl rfl (Val.leq rfl rfl (decide_eq_true (by omega))) rfl ?_
          refine WA.take 10 rfl (by kernel_rfl) rfl (fun w h => (h.sub [1] rfl)) (Val.pick rfl) rfl ?_
          refine WA.take 11 rfl (by kernel_rfl) rfl (fun w h => (h.sub [1] rfl)) (Val.moveB rfl) rfl ?_
          refine WA.takeGT 12 rfl (by kernel_rfl) rfl (fun w h => (h.sub [1] rfl)) rfl rfl (Val.fldAddr rfl) rfl ?_
          refine WA.takeGT 13 rfl (by kernel_rfl) rfl (fun w h => (h.sub [1] rfl)) rfl rfl (Val.ldO 0 rfl rfl rfl) rfl ?_
          refine WA.eff1 (i := 14) (by kernel_rfl) rfl rfl ?_
          refine WL.gT rfl rfl ?_
          refine WL.callE rfl rfl (colRight_ctr x.col _) rfl (fun h => ?_) (fun h => ?_)
          · skip
            refine WL.nil ?_
            refine WK.anyStep (fun w h => (h.sub [1] rfl)) ?_
            refine WA.take 15 rfl (by kernel_rfl) rfl (fun w h => (h.sub [1] rfl)) (Val.pick rfl) rfl ?_
            refine WA.take 16 rfl (by kernel_rfl) rfl (fun w h => (h.sub [1] rfl)) (Val.moveB rfl) rfl ?_
            refine WA.takeGT 17 rfl (by kernel_rfl) rfl (fun w h => (h.sub [1] rfl)) rfl rfl (Val.moveI rfl) rfl ?_
            refine WA.takeGT 18 rfl (by kernel_rfl) rfl (fun w h => (h.sub [1] rfl)) rfl rfl (Val.eql rfl rfl (beq_eq_false_iff_ne.2 (by omega))) rfl ?_
            refine WA.takeGT 19 rfl (by kernel_rfl) rfl (fun w h => (h.sub [1] rfl)) rfl rfl (Val.moveB rfl) rfl ?_
            refine WA.takeGT 20 rfl (by kernel_rfl) rfl (fun w h => (h.sub [1] rfl)) rfl rfl (Val.moveS rfl) rfl ?_
            refine WA.takeGT 21 rfl (by kernel_rfl) rfl (fun w h => (h.sub [1] rfl)) rfl rfl (Val.moveI rfl) rfl ?_
            first | refine WA.take 22 rfl (by kernel_rfl) rfl (fun w h => (h.sub [1] rfl)) (Val.sub (z := (j : Int)) rfl rfl (by rw [wrap_i64 (by omega) (by omega)]; omega)) rfl ?_ | refine WA.takeGT 22 rfl (by kernel_rfl) rfl (fun w h => (h.sub [1] rfl)) rfl rfl (Val.sub (z := (j : Int)) rfl rfl (by rw [wrap_i64 (by omega) (by omega)]; omega)) rfl ?_
            refine WA.takeGT 23 rfl (by kernel_rfl) rfl (fun w h => (h.sub [1] rfl)) rfl rfl (Val.indexAddr rfl rfl (by omega) (by omega)) rfl ?_
            refine WA.takeGT 24 rfl (by kernel_rfl) rfl (fun w h => (h.sub [1] rfl)) rfl rfl (Val.fldAddr rfl) rfl ?_
            refine WA.takeGT 25 rfl (by kernel_rfl) rfl (fun w h => (h.sub [1] rfl)) rfl rfl (Val.loadS rfl (Rd.imm (At.zero (by assumption) rfl))) rfl ?_
            refine WA.takeGT 26 rfl (by kernel_rfl) rfl (fun w h => (h.sub [1] rfl)) rfl rfl (Val.fldAddr rfl) rfl ?_
            refine WA.takeGT 27 rfl (by kernel_rfl) rfl (fun w h => (h.sub [1] rfl)) rfl rfl (Val.loadS rfl (Rd.own1 0 rfl rfl)) rfl ?_
            refine WA.takeGT 28 rfl (by kernel_rfl) rfl (fun w h => (h.sub [1] rfl)) rfl rfl (Val.leq rfl rfl (decide_eq_true (by omega))) rfl ?_
            refine WA.takeGT 29 rfl (by kernel_rfl) rfl (fun w h => (h.sub [1] rfl)) rfl rfl (Val.pick rfl) rfl ?_
            refine WA.take 30 rfl (by kernel_rfl) rfl (fun w h => (h.sub [1] rfl)) (Val.pick rfl) rfl ?_
            refine WA.take 31 rfl (by kernel_rfl) rfl (fun w h => (h.sub [1] rfl)) (Val.assignB rfl) rfl ?_
            refine WA.done (by kernel_rfl) ?_
            refine WX.inNormal ?_
            refine WX.thenC ?_
            refine WC.region ?_
            refine WL.val (Val.add rfl rfl (wrap_i64 (by omega) (by omega))) rfl ?_
            refine WL.val (Val.moveI rfl) rfl ?_
            refine WL.nil ?_
            refine WX.conv (fun w h => h.sub [0] rfl) ?_
            exact WX.thenK (WK.round (l.length - (j + 1 + 1)) (by omega) ⟨j + 1 + 1, true, rfl, by omega, rfl, rfl, rfl, rfl, rfl, rfl, rfl, hgo _ (by rw [Bool.true_and]; exact (decide_eq_true ⟨p0, p1, h, fun q e => by cases e; exact p2⟩).symm)⟩)
          · skip
            refine WL.nil ?_
            refine WK.anyStep (fun w h => (h.sub [1] rfl)) ?_
            refine WA.take 15 rfl (by kernel_rfl) rfl (fun w h => (h.sub [1] rfl)) (Val.pick rfl) rfl ?_
            refine WA.take 16 rfl (by kernel_rfl) rfl (fun w h => (h.sub [1] rfl)) (Val.moveB rfl) rfl ?_
            refine WA.takeGF 17 rfl (by kernel_rfl) rfl (fun w h => (h.sub [1] rfl)) rfl rfl rfl rfl ?_
            refine WA.takeGF 18 rfl (by kernel_rfl) rfl (fun w h => (h.sub [1] rfl)) rfl rfl rfl rfl ?_
            refine WA.takeGF 19 rfl (by kernel_rfl) rfl (fun w h => (h.sub [1] rfl)) rfl rfl rfl rfl ?_
            refine WA.takeGU 20 rfl (by kernel_rfl) rfl (fun w h => (h.sub [1] rfl)) rfl rfl rfl ?_
            refine WA.takeGU 21 rfl (by kernel_rfl) rfl (fun w h => (h.sub [1] rfl)) rfl rfl rfl ?_
            refine WA.takeGU 22 rfl (by kernel_rfl) rfl (fun w h => (h.sub [1] rfl)) rfl rfl rfl ?_
            refine WA.takeGU 23 rfl (by kernel_rfl) rfl (fun w h => (h.sub [1] rfl)) rfl rfl rfl ?_
            refine WA.takeGU 24 rfl (by kernel_rfl) rfl (fun w h => (h.sub [1] rfl)) rfl rfl rfl ?_
            refine WA.takeGU 25 rfl (by kernel_rfl) rfl (fun w h => (h.sub [1] rfl)) rfl rfl rfl ?_
            refine WA.takeGU 26 rfl (by kernel_rfl) rfl (fun w h => (h.sub [1] rfl)) rfl rfl rfl ?_
            refine WA.takeGU 27 rfl (by kernel_rfl) rfl (fun w h => (h.sub [1] rfl)) rfl rfl rfl ?_
            refine WA.takeGU 28 rfl (by kernel_rfl) rfl (fun w h => (h.sub [1] rfl)) rfl rfl rfl ?_
            refine WA.takeGF 29 rfl (by kernel_rfl) rfl (fun w h => (h.sub [1] rfl)) rfl rfl rfl rfl ?_
            refine WA.take 30 rfl (by kernel_rfl) rfl (fun w h => (h.sub [1] rfl)) (Val.pick rfl) rfl ?_
            refine WA.take 31 rfl (by kernel_rfl) rfl (fun w h => (h.sub [1] rfl)) (Val.assignB rfl) rfl ?_
            refine WA.done (by kernel_rfl) ?_
            refine WX.inNormal ?_
            refine WX.thenC ?_
            refine WC.region ?_
            refine WL.val (Val.add rfl rfl (wrap_i64 (by omega) (by omega))) rfl ?_
            refine WL.val (Val.moveI rfl) rfl ?_
            refine WL.nil ?_
            refine WX.conv (fun w h => h.sub [0] rfl) ?_
            exact WX.thenK (WK.round (l.length - (j + 1 + 1)) (by omega) ⟨j + 1 + 1, false, rfl, by omega, rfl, rfl, rfl, rfl, rfl, rfl, rfl, hgo _ (by rw [Bool.true_and]; exact (decide_eq_false fun e => h e.2.2.1).symm)⟩)
        · skip
          refine WC.drawK 999 I0 [1] rfl (by kernel_rfl) rfl rfl ?_
          refine WA.take 0 rfl (by kernel_rfl) rfl (fun w h => (h.sub [1] rfl)) (Val.moveB rfl) rfl ?_
          refine WA.take 1 rfl (by kernel_rfl) rfl (fun w h => (h.sub [1] rfl)) (Val.moveB rfl) rfl ?_
          refine WA.takeGT 2 rfl (by kernel_rfl) rfl (fun w h => (h.sub [1] rfl)) rfl rfl (Val.fldAddr rfl) rfl ?_
          refine WA.takeGT 3 rfl (by kernel_rfl) rfl (fun w h => (h.sub [1] rfl)) rfl rfl (Val.loadS rfl (Rd.own1 0 rfl rfl)) rfl ?_
          refine WA.takeGT 4 rfl (by kernel_rfl) rfl (fun w h => (h.sub [1] rfl)) rfl rfl (Val.geq rfl rfl (decide_eq_true (by omega))) rfl ?_
          refine WA.take 5 rfl (by kernel_rfl) rfl (fun w h => (h.sub [1] rfl)) (Val.pick rfl) rfl ?_
          refine WA.take 6 rfl (by kernel_rfl) rfl (fun w h => (h.sub [1] rfl)) (Val.moveB rfl) rfl ?_
          refine WA.takeGT 7 rfl (by kernel_rfl) rfl (fun w h => (h.sub [1] rfl)) rfl rfl (Val.fldAddr rfl) rfl ?_
          refine WA.takeGT 8 rfl (by kernel_rfl) rfl (fun w h => (h.sub [1] rfl)) rfl rfl (Val.loadS rfl (Rd.own1 0 rfl rfl)) rfl ?_
          refine WA.takeGT 9 rfl (by kernel_rfl) rfl (fun w h => (h.sub [1] rfl)) rfl rfl (Val.leq rfl rfl (decide_eq_true (by omega))) rfl ?_
          refine WA.take 10 rfl (by kernel_rfl) rfl (fun w h => (h.sub [1] rfl)) (Val.pick rfl) rfl ?_
          refine WA.take 11 rfl (by kernel_rfl) rfl (fun w h => (h.sub [1] rfl)) (Val.moveB rfl) rfl ?_
          refine WA.takeGT 12 rfl (by kernel_rfl) rfl (fun w h => (h.sub [1] rfl)) rfl rfl (Val.fldAddr rfl) rfl ?_
          refine WA.takeGT 13 rfl (by kernel_rfl) rfl (fun w h => (h.sub [1] rfl)) rfl rfl (Val.ldO 0 rfl rfl rfl) rfl ?_
          refine WA.eff1 (i := 14) (by kernel_rfl) rfl rfl ?_
          refine WL.gT rfl rfl ?_
          refine WL.callE rfl rfl (colRight_ctr x.col _) rfl (fun h => ?_) (fun h => ?_)
          · skip
            refine WL.nil ?_
            refine WK.anyStep (fun w h => (h.sub [1] rfl)) ?_
            refine WA.take 15 rfl (by kernel_rfl) rfl (fun w h => (h.sub [1] rfl)) (Val.pick rfl) rfl ?_
            refine WA.take 16 rfl (by kernel_rfl) rfl (fun w h => (h.sub [1] rfl)) (Val.moveB rfl) rfl ?_
            refine WA.takeGT 17 rfl (by kernel_rfl) rfl (fun w h => (h.sub [1] rfl)) rfl rfl (Val.moveI rfl) rfl ?_
            refine WA.takeGT 18 rfl (by kernel_rfl) rfl (fun w h => (h.sub [1] rfl)) rfl rfl (Val.eql rfl rfl (beq_eq_false_iff_ne.2 (by omega))) rfl ?_
            refine WA.takeGT 19 rfl (by kernel_rfl) rfl (fun w h => (h.sub [1] rfl)) rfl rfl (Val.moveB rfl) rfl ?_
            refine WA.takeGT 20 rfl (by kernel_rfl) rfl (fun w h => (h.sub [1] rfl)) rfl rfl (Val.moveS rfl) rfl ?_
            refine WA.takeGT 21 rfl (by kernel_rfl) rfl (fun w h => (h.sub [1] rfl)) rfl rfl (Val.moveI rfl) rfl ?_
            first | refine WA.take 22 rfl (by kernel_rfl) rfl (fun w h => (h.sub [1] rfl)) (Val.sub (z := (j : Int)) rfl rfl (by rw [wrap_i64 (by omega) (by omega)]; omega)) rfl ?_ | refine WA.takeGT 22 rfl (by kernel_rfl) rfl (fun w h => (h.sub [1] rfl)) rfl rfl (Val.sub (z := (j : Int)) rfl rfl (by rw [wrap_i64 (by omega) (by omega)]; omega)) rfl ?_
            refine WA.takeGT 23 rfl (by kernel_rfl) rfl (fun w h => (h.sub [1] rfl)) rfl rfl (Val.indexAddr rfl rfl (by omega) (by omega)) rfl ?_
            refine WA.takeGT 24 rfl (by kernel_rfl) rfl (fun w h => (h.sub [1] rfl)) rfl rfl (Val.fldAddr rfl) rfl ?_
            refine WA.takeGT 25 rfl (by kernel_rfl) rfl (fun w h => (h.sub [1] rfl)) rfl rfl (Val.loadS rfl (Rd.imm (At.zero (by assumption) rfl))) rfl ?_
            refine WA.takeGT 26 rfl (by kernel_rfl) rfl (fun w h => (h.sub [1] rfl)) rfl rfl (Val.fldAddr rfl) rfl ?_
            refine WA.takeGT 27 rfl (by kernel_rfl) rfl (fun w h => (h.sub [1] rfl)) rfl rfl (Val.loadS rfl (Rd.own1 0 rfl rfl)) rfl ?_
            refine WA.takeGT 28 rfl (by kernel_rfl) rfl (fun w h => (h.sub [1] rfl)) rfl rfl (Val.leq rfl rfl (decide_eq_false (by omega))) rfl ?_
            refine WA.takeGT 29 rfl (by kernel_rfl) rfl (fun w h => (h.sub [1] rfl)) rfl rfl (Val.pick rfl) rfl ?_
            refine WA.take 30 rfl (by kernel_rfl) rfl (fun w h => (h.sub [1] rfl)) (Val.pick rfl) rfl ?_
            refine WA.take 31 rfl (by kernel_rfl) rfl (fun w h => (h.sub [1] rfl)) (Val.assignB rfl) rfl ?_
            refine WA.done (by kernel_rfl) ?_
            refine WX.inNormal ?_
            refine WX.thenC ?_
            refine WC.region ?_
            refine WL.val (Val.add rfl rfl (wrap_i64 (by omega) (by omega))) rfl ?_
            refine WL.val (Val.moveI rfl) rfl ?_
            refine WL.nil ?_
            refine WX.conv (fun w h => h.sub [0] rfl) ?_
            exact WX.thenK (WK.round (l.length - (j + 1 + 1)) (by omega) ⟨j + 1 + 1, false, rfl, by omega, rfl, rfl, rfl, rfl, rfl, rfl, rfl, hgo _ (by rw [Bool.true_and]; exact (decide_eq_false fun e => p2 (e.2.2.2 y rfl)).symm)⟩)
          · skip
            refine WL.nil ?_
            refine WK.anyStep (fun w h => (h.sub [1] rfl)) ?_
            refine WA.take 15 rfl (by kernel_rfl) rfl (fun w h => (h.sub [1] rfl)) (Val.pick rfl) rfl ?_
            refine WA.take 16 rfl (by kernel_rfl) rfl (fun w h => (h.sub [1] rfl)) (Val.moveB rfl) rfl ?_
            refine WA.takeGF 17 rfl (by kernel_rfl) rfl (fun w h => (h.sub [1] rfl)) rfl rfl rfl rfl ?_
            refine WA.takeGF 18 rfl (by kernel_rfl) rfl (fun w h => (h.sub [1] rfl)) rfl rfl rfl rfl ?_
            refine WA.takeGF 19 rfl (by kernel_rfl) rfl (fun w h => (h.sub [1] rfl)) rfl rfl rfl rfl ?_
            refine WA.takeGU 20 rfl (by kernel_rfl) rfl (fun w h => (h.sub [1] rfl)) rfl rfl rfl ?_
            refine WA.takeGU 21 rfl (by kernel_rfl) rfl (fun w h => (h.sub [1] rfl)) rfl rfl rfl ?_
            refine WA.takeGU 22 rfl (by kernel_rfl) rfl (fun w h => (h.sub [1] rfl)) rfl rfl rfl ?_
            refine WA.takeGU 23 rfl (by kernel_rfl) rfl (fun w h => (h.sub [1] rfl)) rfl rfl rfl ?_
            refine WA.takeGU 24 rfl (by kernel_rfl) rfl (fun w h => (h.sub [1] rfl)) rfl rfl rfl ?_
            refine WA.takeGU 25 rfl (by kernel_rfl) rfl (fun w h => (h.sub [1] rfl)) rfl rfl rfl ?_
            refine WA.takeGU 26 rfl (by kernel_rfl) rfl (fun w h => (h.sub [1] rfl)) rfl rfl rfl ?_
            refine WA.takeGU 27 rfl (by kernel_rfl) rfl (fun w h => (h.sub [1] rfl)) rfl rfl rfl ?_
            refine WA.takeGU 28 rfl (by kernel_rfl) rfl (fun w h => (h.sub [1] rfl)) rfl rfl rfl ?_
            refine WA.takeGF 29 rfl (by kernel_rfl) rfl (fun w h => (h.sub [1] rfl)) rfl rfl rfl rfl ?_
            refine WA.take 30 rfl (by kernel_rfl) rfl (fun w h => (h.sub [1] rfl)) (Val.pick rfl) rfl ?_
            refine WA.take 31 rfl (by kernel_rfl) rfl (fun w h => (h.sub [1] rfl)) (Val.assignB rfl) rfl ?_
            refine WA.done (by kernel_rfl) ?_
            refine WX.inNormal ?_
            refine WX.thenC ?_
            refine WC.region ?_
            refine WL.val (Val.add rfl rfl (wrap_i64 (by omega) (by omega))) rfl ?_
            refine WL.val (Val.moveI rfl) rfl ?_
            refine WL.nil ?_
            refine WX.conv (fun w h => h.sub [0] rfl) ?_
            exact WX.thenK (WK.round (l.length - (j + 1 + 1)) (by omega) ⟨j + 1 + 1, false, rfl, by omega, rfl, rfl, rfl, rfl, rfl, rfl, rfl, hgo _ (by rw [Bool.true_and]; exact (decide_eq_false fun e => h e.2.2.1).symm)⟩)
  · have : k = l.length := by omega
    subst this
    rw [List.take_length] at hok
    rw [← hok]
    cases ok with
    | false =>
      refine WC.seq ?_
      refine WC.region ?_
      refine WL.val (Val.lss rfl rfl (decide_eq_false (by omega))) rfl ?_
      refine WL.nil ?_
      refine WX.thenC ?_
      refine WC.seq ?_
      refine WC.condF rfl ?_
      refine WC.exit ?_
      refine WX.thenExit ?_
      refine WX.thenExit ?_
      refine WX.inHit ?_
      refine WX.thenC ?_
      refine WC.seq ?_
      refine WC.seq ?_
      refine WC.region ?_
      refine WL.val (Val.moveB rfl) rfl ?_
      refine WL.val (Val.not rfl) rfl ?_
      refine WL.nil ?_
      refine WX.thenC ?_
      refine WC.condT rfl ?_
      refine WC.seq ?_
      refine WC.region ?_
      refine WL.val (Val.assignI rfl) rfl ?_
      refine WL.nil ?_
      refine WX.thenC ?_
      refine WC.ret ?_
      refine WX.thenRet ?_
      apply WX.doneP (ks := [])
      case hres => exact RunRes.r1 rfl (ResIs.tmpI rfl)
      case hI => first | exact Mem.le.refl _ | assumption
      exact ⟨rfl, rfl, rfl⟩
    | true =>
      refine WC.seq ?_
      refine WC.region ?_
      refine WL.val (Val.lss rfl rfl (decide_eq_false (by omega))) rfl ?_
      refine WL.nil ?_
      refine WX.thenC ?_
      refine WC.seq ?_
      refine WC.condF rfl ?_
      refine WC.exit ?_
      refine WX.thenExit ?_
      refine WX.thenExit ?_
      refine WX.inHit ?_
      refine WX.thenC ?_
      refine WC.seq ?_
      refine WC.seq ?_
      refine WC.region ?_
      refine WL.val (Val.moveB rfl) rfl ?_
      refine WL.val (Val.not rfl) rfl ?_
      refine WL.nil ?_
      refine WX.thenC ?_
      refine WC.condF rfl ?_
      refine WC.skip ?_
      refine WX.thenC ?_
      refine WC.seq ?_
      refine WC.region ?_
      refine WL.val (Val.assignI rfl) rfl ?_
      refine WL.nil ?_
      refine WX.thenC ?_
      refine WC.ret ?_
      apply WX.doneP (ks := [])
      case hres => exact RunRes.r1 rfl (ResIs.tmpI rfl)
      case hI => first | exact Mem.le.refl _ | assumption
      exact ⟨rfl, rfl, rfl⟩
theorem isum_app : ∀ (a b : List Int), isum (a ++ b) = isum a + isum b
  | [], b => by simp [isum]
  | x :: a, b => by rw [List.cons_append, isum, isum, isum_app a b]; omega
theorem sum_ctr (l : List Int) (ph : Int) (v : Value) (I : Mem) (hv : LsAt Int.rep I l v) (hl : l.length ≤ 8) (hd : ∀ n ∈ l, dashPart n) : Ctr Tryz.prog 96 [.agg #[v, vi ph]] I [] (Still I fun r => r = vi (isum l)) := by
  obtain ⟨a1, c1, rfl⟩ := hv.sl
  refine Ctr.intro Tryz.func96 rfl rfl rfl fun E F => ?_
  refine WC.seq ?_
  refine WC.region ?_
  (refine WL.boxA rfl rfl ?_; intro _)
  refine WL.nApp ?_
  refine WL.val (Val.assignI rfl) rfl ?_
  refine WL.nil ?_
  refine WX.thenC ?_
  refine WC.seq ?_
  refine WC.region ?_
  refine WL.val (Val.assignI rfl) rfl ?_
  refine WL.nil ?_
  refine WX.thenC ?_
  refine WC.seq ?_
  refine WC.seq ?_
  refine WC.region ?_
  refine WL.val (Val.fldAddr rfl) rfl ?_
  refine WL.val (Val.loadS rfl (Rd.own1 1 rfl rfl)) rfl ?_
  refine WL.val (Val.len rfl) rfl ?_
  refine WL.val (Val.moveI rfl) rfl ?_
  refine WL.nil ?_
  refine WX.thenC ?_
  refine WC.block ?_
  rename_i g
  refine WC.loop (fun n ρ' I' L' => ∃ k : Nat, n = l.length - k ∧ k ≤ l.length ∧ I' = I ∧ ρ' 3 = vi (isum (l.take k)) ∧ ρ' 7 = .slice a1 l.length c1 ∧ ρ' 8 = vi l.length ∧ ρ' 9 = vi k ∧ L' = [F, box g 33 [.slice a1 l.length c1, vi ph]] ∧ 0 ≤ isum (l.take k) ∧ isum (l.take k) ≤ 1048576 * (k : Int))
    l.length ⟨0, rfl, by omega, rfl, rfl, rfl, rfl, rfl, rfl, by simp [isum], by simp [isum]⟩ ?_
  rintro n ρ' I0 L' ⟨k, rfl, hk, rfl, r3, r7, r8, r9, rfl, s1, s2⟩
  rw [← upd_self r9, ← upd_self r8, ← upd_self r7, ← upd_self r3]
  clear r9 r8 r7 r3
  by_cases hkn : k < l.length
  · obtain ⟨b, off, cap', cs, he, ⟨rfl, hi⟩, hA⟩ := hv.get k hkn
    cases he
    have hsn : isum (l.take (k + 1)) = isum (l.take k) + l[k] := by rw [List.take_succ_eq_append_getElem hkn, isum_app]; simp [isum]
    obtain ⟨d1, d2⟩ := hd l[k] (List.getElem_mem hkn)
    refine WC.seq ?_
    refine WC.region ?_
    refine WL.val (Val.lss rfl rfl (decide_eq_true (by omega))) rfl ?_
    refine WL.nil ?_
    refine WX.thenC ?_
    refine WC.seq ?_
    refine WC.condT rfl ?_
    refine WC.skip ?_
    refine WX.thenC ?_
    refine WC.seq ?_
    refine WC.block ?_
    refine WC.seq ?_
    refine WC.region ?_
    refine WL.val (Val.indexAddr rfl rfl (by omega) (by omega)) rfl ?_
    refine WL.val (Val.loadS rfl (Rd.imm (by assumption))) rfl ?_
    refine WL.val (Val.assignI rfl) rfl ?_
    refine WL.nil ?_
    refine WX.thenC ?_
    refine WC.region ?_
    refine WL.val (Val.moveI rfl) rfl ?_
    refine WL.val (Val.moveI rfl) rfl ?_
    refine WL.val (Val.add rfl rfl (wrap_i64 (by omega) (by omega))) rfl ?_
    refine WL.val (Val.assignI rfl) rfl ?_
    refine WL.nil ?_
    refine WX.inNormal ?_
    refine WX.thenC ?_
    refine WC.region ?_
    refine WL.val (Val.add rfl rfl (wrap_i64 (by omega) (by omega))) rfl ?_
    refine WL.val (Val.moveI rfl) rfl ?_
    refine WL.nil ?_
    exact WX.thenK (WK.round (l.length - (k + 1)) (by omega) ⟨k + 1, rfl, by omega, rfl, by rw [hsn]; rfl, rfl, rfl, rfl, rfl, by omega, by omega⟩)
  · have : k = l.length := by omega
    subst this
    refine WC.seq ?_
    refine WC.region ?_
    refine WL.val (Val.lss rfl rfl (decide_eq_false (by omega))) rfl ?_
    refine WL.nil ?_
    refine WX.thenC ?_
    refine WC.seq ?_
    refine WC.condF rfl ?_
    refine WC.exit ?_
    refine WX.thenExit ?_
    refine WX.thenExit ?_
    refine WX.inHit ?_
    refine WX.thenC ?_
    refine WC.seq ?_
    refine WC.region ?_
    refine WL.val (Val.moveI rfl) rfl ?_
    refine WL.val (Val.assignI rfl) rfl ?_
    refine WL.nil ?_
    refine WX.thenC ?_
    refine WC.ret ?_
    apply WX.doneP (ks := [])
    case hres => exact RunRes.r1 rfl (ResIs.tmpI rfl)
    case hI => first | exact Mem.le.refl _ | assumption
    rw [List.take_length]
    exact ⟨rfl, rfl, rfl⟩
theorem dash_ctr (l : List Int) (ph : Int) (v : Value) (I : Mem) (hv : LsAt Int.rep I l v) : Ctr Tryz.prog 55 [.agg #[v, vi ph]] I [] (Still I fun r => r = vi (dashCheck l ph)) := by
  obtain ⟨a1, c1, rfl⟩ := hv.sl
  refine Ctr.intro Tryz.func55 rfl rfl rfl fun E F => ?_
  by_cases h0 : l.length = 0
  · by_cases hp : ph = 0
    · skip
      refine WC.seq ?_
      refine WC.region ?_
      (refine WL.boxA rfl rfl ?_; intro _)
      refine WL.nApp ?_
      refine WL.val (Val.assignI rfl) rfl ?_
      refine WL.nil ?_
      refine WX.thenC ?_
      refine WC.seq ?_
      refine WC.seq ?_
      refine WC.region ?_
      refine WL.val (Val.fldAddr rfl) rfl ?_
      refine WL.val (Val.loadS rfl (Rd.own1 1 rfl rfl)) rfl ?_
      refine WL.val (Val.len rfl) rfl ?_
      refine WL.val (Val.eql rfl rfl (beq_iff_eq.2 (by omega))) rfl ?_
      refine WL.val (Val.moveB rfl) rfl ?_
      refine WL.gT rfl rfl ?_
      refine WL.val (Val.fldAddr rfl) rfl ?_
      refine WL.gT rfl rfl ?_
      refine WL.val (Val.loadS rfl (Rd.own1 1 rfl rfl)) rfl ?_
      refine WL.gT rfl rfl ?_
      refine WL.val (Val.eql rfl rfl (beq_iff_eq.2 (by omega))) rfl ?_
      refine WL.val (Val.pick rfl) rfl ?_
      refine WL.nil ?_
      refine WX.thenC ?_
      refine WC.condT rfl ?_
      refine WC.seq ?_
      refine WC.region ?_
      refine WL.val (Val.assignI rfl) rfl ?_
      refine WL.nil ?_
      refine WX.thenC ?_
      refine WC.ret ?_
      refine WX.thenRet ?_
      apply WX.doneP (ks := [])
      case hres => exact RunRes.r1 rfl (ResIs.tmpI rfl)
      case hI => first | exact Mem.le.refl _ | assumption
      exact ⟨rfl, rfl, by rw [dashCheck, if_pos ⟨h0, hp⟩]⟩
    · skip
      refine WC.seq ?_
      refine WC.region ?_
      (refine WL.boxA rfl rfl ?_; intro _)
      refine WL.nApp ?_
      refine WL.val (Val.assignI rfl) rfl ?_
      refine WL.nil ?_
      refine WX.thenC ?_
      refine WC.seq ?_
      refine WC.seq ?_
      refine WC.region ?_
      refine WL.val (Val.fldAddr rfl) rfl ?_
      refine WL.val (Val.loadS rfl (Rd.own1 1 rfl rfl)) rfl ?_
      refine WL.val (Val.len rfl) rfl ?_
      refine WL.val (Val.eql rfl rfl (beq_iff_eq.2 (by omega))) rfl ?_
      refine WL.val (Val.moveB rfl) rfl ?_
      refine WL.gT rfl rfl ?_
      refine WL.val (Val.fldAddr rfl) rfl ?_
      refine WL.gT rfl rfl ?_
      refine WL.val (Val.loadS rfl (Rd.own1 1 rfl rfl)) rfl ?_
      refine WL.gT rfl rfl ?_
      refine WL.val (Val.eql rfl rfl (beq_eq_false_iff_ne.2 (by omega))) rfl ?_
      refine WL.val (Val.pick rfl) rfl ?_
      refine WL.nil ?_
      refine WX.thenC ?_
      refine WC.condF rfl ?_
      refine WC.skip ?_
      refine WX.thenC ?_
      refine WC.seq ?_
      refine WC.seq ?_
      refine WC.region ?_
      refine WL.val (Val.fldAddr rfl) rfl ?_
      refine WL.val (Val.loadS rfl (Rd.own1 1 rfl rfl)) rfl ?_
      refine WL.val (Val.len rfl) rfl ?_
      refine WL.val (Val.eql rfl rfl (beq_iff_eq.2 (by omega))) rfl ?_
      refine WL.val (Val.moveB rfl) rfl ?_
      refine WL.gF rfl rfl rfl rfl ?_
      refine WL.gF rfl rfl rfl rfl ?_
      refine WL.gF rfl rfl rfl rfl ?_
      refine WL.gF rfl rfl rfl rfl ?_
      refine WL.val (Val.pick rfl) rfl ?_
      refine WL.val (Val.moveB rfl) rfl ?_
      refine WL.gF rfl rfl rfl rfl ?_
      refine WL.gF rfl rfl rfl rfl ?_
      refine WL.gF rfl rfl rfl rfl ?_
      refine WL.gF rfl rfl rfl rfl ?_
      refine WL.gF rfl rfl rfl rfl ?_
      refine WL.val (Val.pick rfl) rfl ?_
      refine WL.nil ?_
      refine WX.thenC ?_
      refine WC.condT rfl ?_
      refine WC.seq ?_
      refine WC.region ?_
      refine WL.val (Val.assignI rfl) rfl ?_
      refine WL.nil ?_
      refine WX.thenC ?_
      refine WC.ret ?_
      refine WX.thenRet ?_
      apply WX.doneP (ks := [])
      case hres => exact RunRes.r1 rfl (ResIs.tmpI rfl)
      case hI => first | exact Mem.le.refl _ | assumption
      exact ⟨rfl, rfl, by rw [dashCheck, if_neg (fun e => hp e.2), if_pos (.inl h0)]⟩
  by_cases h8 : 8 < l.length
  · skip
    refine WC.seq ?_
    refine WC.region ?_
    (refine WL.boxA rfl rfl ?_; intro _)
    refine WL.nApp ?_
    refine WL.val (Val.assignI rfl) rfl ?_
    refine WL.nil ?_
    refine WX.thenC ?_
    refine WC.seq ?_
    refine WC.seq ?_
    refine WC.region ?_
    refine WL.val (Val.fldAddr rfl) rfl ?_
    refine WL.val (Val.loadS rfl (Rd.own1 1 rfl rfl)) rfl ?_
    refine WL.val (Val.len rfl) rfl ?_
    refine WL.val (Val.eql rfl rfl (beq_eq_false_iff_ne.2 (by omega))) rfl ?_
    refine WL.val (Val.moveB rfl) rfl ?_
    refine WL.gF rfl rfl rfl rfl ?_
    refine WL.gF rfl rfl rfl rfl ?_
    refine WL.gF rfl rfl rfl rfl ?_
    refine WL.val (Val.pick rfl) rfl ?_
    refine WL.nil ?_
    refine WX.thenC ?_
    refine WC.condF rfl ?_
    refine WC.skip ?_
    refine WX.thenC ?_
    refine WC.seq ?_
    refine WC.seq ?_
    refine WC.region ?_
    refine WL.val (Val.fldAddr rfl) rfl ?_
    refine WL.val (Val.loadS rfl (Rd.own1 1 rfl rfl)) rfl ?_
    refine WL.val (Val.len rfl) rfl ?_
    refine WL.val (Val.eql rfl rfl (beq_eq_false_iff_ne.2 (by omega))) rfl ?_
    refine WL.val (Val.moveB rfl) rfl ?_
    refine WL.gT rfl rfl ?_
    refine WL.val (Val.fldAddr rfl) rfl ?_
    refine WL.gT rfl rfl ?_
    refine WL.val (Val.loadS rfl (Rd.own1 1 rfl rfl)) rfl ?_
    refine WL.gT rfl rfl ?_
    refine WL.val (Val.len rfl) rfl ?_
    refine WL.gT rfl rfl ?_
    refine WL.val (Val.gtr rfl rfl (decide_eq_true (by omega))) rfl ?_
    refine WL.val (Val.pick rfl) rfl ?_
    refine WL.val (Val.moveB rfl) rfl ?_
    refine WL.gF rfl rfl rfl rfl ?_
    refine WL.gF rfl rfl rfl rfl ?_
    refine WL.gF rfl rfl rfl rfl ?_
    refine WL.gF rfl rfl rfl rfl ?_
    refine WL.gF rfl rfl rfl rfl ?_
    refine WL.val (Val.pick rfl) rfl ?_
    refine WL.nil ?_
    refine WX.thenC ?_
    refine WC.condT rfl ?_
    refine WC.seq ?_
    refine WC.region ?_
    refine WL.val (Val.assignI rfl) rfl ?_
    refine WL.nil ?_
    refine WX.thenC ?_
    refine WC.ret ?_
    refine WX.thenRet ?_
    apply WX.doneP (ks := [])
    case hres => exact RunRes.r1 rfl (ResIs.tmpI rfl)
    case hI => first | exact Mem.le.refl _ | assumption
    exact ⟨rfl, rfl, by rw [dashCheck, if_neg (fun e => h0 e.1), if_pos (.inr (.inl h8))]⟩
  refine WC.seq ?_
  refine WC.region ?_
  (refine WL.boxA rfl rfl ?_; intro _)
  refine WL.nApp ?_
  refine WL.val (Val.assignI rfl) rfl ?_
  refine WL.nil ?_
  refine WX.thenC ?_
  refine WC.seq ?_
  refine WC.seq ?_
  refine WC.region ?_
  refine WL.val (Val.fldAddr rfl) rfl ?_
  refine WL.val (Val.loadS rfl (Rd.own1 1 rfl rfl)) rfl ?_
  refine WL.val (Val.len rfl) rfl ?_
  refine WL.val (Val.eql rfl rfl (beq_eq_false_iff_ne.2 (by omega))) rfl ?_
  refine WL.val (Val.moveB rfl) rfl ?_
  refine WL.gF rfl rfl rfl rfl ?_
  refine WL.gF rfl rfl rfl rfl ?_
  refine WL.gF rfl rfl rfl rfl ?_
  refine WL.val (Val.pick rfl) rfl ?_
  refine WL.nil ?_
  refine WX.thenC ?_
  refine WC.condF rfl ?_
  refine WC.skip ?_
  refine WX.thenC ?_
  refine WC.seq ?_
  refine WC.seq ?_
  refine WC.region ?_
  refine WL.val (Val.fldAddr rfl) rfl ?_
  refine WL.val (Val.loadS rfl (Rd.own1 1 rfl rfl)) rfl ?_
  refine WL.val (Val.len rfl) rfl ?_
  refine WL.val (Val.eql rfl rfl (beq_eq_false_iff_ne.2 (by omega))) rfl ?_
  refine WL.val (Val.moveB rfl) rfl ?_
  refine WL.gT rfl rfl ?_
  refine WL.val (Val.fldAddr rfl) rfl ?_
  refine WL.gT rfl rfl ?_
  refine WL.val (Val.loadS rfl (Rd.own1 1 rfl rfl)) rfl ?_
  refine WL.gT rfl rfl ?_
  refine WL.val (Val.len rfl) rfl ?_
  refine WL.gT rfl rfl ?_
  refine WL.val (Val.gtr rfl rfl (decide_eq_false (by omega))) rfl ?_
  refine WL.val (Val.pick rfl) rfl ?_
  refine WL.val (Val.moveB rfl) rfl ?_
  refine WL.gT rfl rfl ?_
  refine WL.val (Val.fldAddr rfl) rfl ?_
  refine WL.gT rfl rfl ?_
  refine WL.val (Val.loadS rfl (Rd.own1 1 rfl rfl)) rfl ?_
  refine WL.gT rfl rfl ?_
  refine WL.val (Val.len rfl) rfl ?_
  refine WL.gT rfl rfl ?_
  rename_i g
  refine WL.val (Val.rem rfl rfl (by decide) (show Int.tmod ((l.length : Nat) : Int) 2 = ((l.length % 2 : Nat) : Int) from rfl)) rfl ?_
  by_cases hm : l.length % 2 = 0
  case neg =>
    refine WL.gT rfl rfl ?_
    refine WL.val (Val.neq rfl rfl (bne_iff_ne.2 (by omega))) rfl ?_
    refine WL.val (Val.pick rfl) rfl ?_
    refine WL.nil ?_
    refine WX.thenC ?_
    refine WC.condT rfl ?_
    refine WC.seq ?_
    refine WC.region ?_
    refine WL.val (Val.assignI rfl) rfl ?_
    refine WL.nil ?_
    refine WX.thenC ?_
    refine WC.ret ?_
    refine WX.thenRet ?_
    apply WX.doneP (ks := [])
    case hres => exact RunRes.r1 rfl (ResIs.tmpI rfl)
    case hI => first | exact Mem.le.refl _ | assumption
    exact ⟨rfl, rfl, by rw [dashCheck, if_neg (fun e => h0 e.1), if_pos (.inr (.inr hm))]⟩
  have hc : dashCheck l ph = if ¬ ∀ n ∈ l, dashPart n then 30 else if ph < 0 ∨ isum l ≤ ph then 30 else 0 := by
    rw [dashCheck, if_neg (fun e => h0 e.1), if_neg (by omega)]
  rw [hc]
  clear hc
  refine WL.gT rfl rfl ?_
  refine WL.val (Val.neq rfl rfl (bne_eq_false_iff_eq.2 (by omega))) rfl ?_
  refine WL.val (Val.pick rfl) rfl ?_
  refine WL.nil ?_
  refine WX.thenC ?_
  refine WC.condF rfl ?_
  refine WC.skip ?_
  refine WX.thenC ?_
  refine WC.seq ?_
  refine WC.seq ?_
  refine WC.region ?_
  refine WL.val (Val.fldAddr rfl) rfl ?_
  refine WL.val (Val.loadS rfl (Rd.own1 1 rfl rfl)) rfl ?_
  refine WL.val (Val.len rfl) rfl ?_
  refine WL.val (Val.moveI rfl) rfl ?_
  refine WL.nil ?_
  refine WX.thenC ?_
  refine WC.block ?_
  refine WC.loop (fun n ρ' I' L' => ∃ k : Nat, n = l.length - k ∧ k ≤ l.length ∧ I' = I ∧ ρ' 1 = ptr g ∧ ρ' 32 = .slice a1 l.length c1 ∧ ρ' 33 = vi l.length ∧ ρ' 34 = vi k ∧ L' = [F, box g 33 [.slice a1 l.length c1, vi ph]] ∧ ∀ n ∈ l.take k, dashPart n)
    l.length ⟨0, rfl, by omega, rfl, rfl, rfl, rfl, rfl, rfl, fun x hx => by simp at hx⟩ ?_
  rintro n ρ' I0 L' ⟨k, rfl, hk, rfl, r1, r32, r33, r34, rfl, hall⟩
  rw [← upd_self r34, ← upd_self r33, ← upd_self r32, ← upd_self r1]
  clear r34 r33 r32 r1
  by_cases hkn : k < l.length
  · obtain ⟨b, off, cap', cs, he, ⟨rfl, hi⟩, hA⟩ := hv.get k hkn
    cases he
    by_cases hd : dashPart l[k]
    · have hd' : 1 ≤ l[k] ∧ l[k] ≤ 1048576 := hd
      have hsn : ∀ n ∈ l.take (k + 1), dashPart n := by
        rw [List.take_succ_eq_append_getElem hkn]
        intro n hn
        rcases List.mem_append.1 hn with hn | hn
        · exact hall n hn
        · rw [List.mem_singleton.1 hn]; exact hd
      generalize l[k] = x at *
      refine WC.seq ?_
      refine WC.region ?_
      refine WL.val (Val.lss rfl rfl (decide_eq_true (by omega))) rfl ?_
      refine WL.nil ?_
      refine WX.thenC ?_
      refine WC.seq ?_
      refine WC.condT rfl ?_
      refine WC.skip ?_
      refine WX.thenC ?_
      refine WC.seq ?_
      refine WC.block ?_
      refine WC.seq ?_
      refine WC.region ?_
      refine WL.val (Val.indexAddr rfl rfl (by omega) (by omega)) rfl ?_
      refine WL.val (Val.loadS rfl (Rd.imm (by assumption))) rfl ?_
      refine WL.val (Val.assignI rfl) rfl ?_
      refine WL.nil ?_
      refine WX.thenC ?_
      refine WC.seq ?_
      refine WC.region ?_
      refine WL.val (Val.moveI rfl) rfl ?_
      refine WL.val (Val.lss rfl rfl (decide_eq_false (by omega))) rfl ?_
      refine WL.val (Val.moveB rfl) rfl ?_
      refine WL.gT rfl rfl ?_
      refine WL.val (Val.moveI rfl) rfl ?_
      refine WL.gT rfl rfl ?_
      refine WL.val (Val.gtr rfl rfl (decide_eq_false (by omega))) rfl ?_
      refine WL.val (Val.pick rfl) rfl ?_
      refine WL.nil ?_
      refine WX.thenC ?_
      refine WC.condF rfl ?_
      refine WC.skip ?_
      refine WX.inNormal ?_
      refine WX.thenC ?_
      refine WC.region ?_
      refine WL.val (Val.add rfl rfl (wrap_i64 (by omega) (by omega))) rfl ?_
      refine WL.val (Val.moveI rfl) rfl ?_
      refine WL.nil ?_
      exact WX.thenK (WK.round (l.length - (k + 1)) (by omega) ⟨k + 1, rfl, by omega, rfl, rfl, rfl, rfl, rfl, rfl, hsn⟩)
    · have hd' : ¬ (1 ≤ l[k] ∧ l[k] ≤ 1048576) := hd
      rw [if_pos (fun e => hd (e _ (List.getElem_mem hkn)))]
      generalize l[k] = x at *
      refine WC.seq ?_
      refine WC.region ?_
      refine WL.val (Val.lss rfl rfl (decide_eq_true (by omega))) rfl ?_
      refine WL.nil ?_
      refine WX.thenC ?_
      refine WC.seq ?_
      refine WC.condT rfl ?_
      refine WC.skip ?_
      refine WX.thenC ?_
      refine WC.seq ?_
      refine WC.block ?_
      refine WC.seq ?_
      refine WC.region ?_
      refine WL.val (Val.indexAddr rfl rfl (by omega) (by omega)) rfl ?_
      refine WL.val (Val.loadS rfl (Rd.imm (by assumption))) rfl ?_
      refine WL.val (Val.assignI rfl) rfl ?_
      refine WL.nil ?_
      refine WX.thenC ?_
      refine WC.seq ?_
      refine WC.region ?_
      refine WL.val (Val.moveI rfl) rfl ?_
      refine WL.ltI rfl rfl rfl (fun h => ?_) (fun h => ?_)
      refine WL.val (Val.moveB rfl) rfl ?_
      refine WL.gF rfl rfl rfl rfl ?_
      refine WL.gF rfl rfl rfl rfl ?_
      refine WL.val (Val.pick rfl) rfl ?_
      refine WL.nil ?_
      refine WX.thenC ?_
      refine WC.condT rfl ?_
      refine WC.seq ?_
      refine WC.region ?_
      refine WL.val (Val.assignI rfl) rfl ?_
      refine WL.nil ?_
      refine WX.thenC ?_
      refine WC.ret ?_
      refine WX.inRet ?_
      refine WX.thenRet ?_
      refine WX.thenRet ?_
      refine WX.inRet ?_
      refine WX.thenRet ?_
      rotate_left
      refine WL.val (Val.moveB rfl) rfl ?_
      refine WL.gT rfl rfl ?_
      refine WL.val (Val.moveI rfl) rfl ?_
      refine WL.gT rfl rfl ?_
      refine WL.val (Val.gtr rfl rfl (decide_eq_true (by omega))) rfl ?_
      refine WL.val (Val.pick rfl) rfl ?_
      refine WL.nil ?_
      refine WX.thenC ?_
      refine WC.condT rfl ?_
      refine WC.seq ?_
      refine WC.region ?_
      refine WL.val (Val.assignI rfl) rfl ?_
      refine WL.nil ?_
      refine WX.thenC ?_
      refine WC.ret ?_
      refine WX.inRet ?_
      refine WX.thenRet ?_
      refine WX.thenRet ?_
      refine WX.inRet ?_
      refine WX.thenRet ?_
      rotate_left
      all_goals
        apply WX.doneP (ks := [])
        case hres => exact RunRes.r1 rfl (ResIs.tmpI rfl)
        case hI => first | exact Mem.le.refl _ | assumption
      all_goals exact ⟨rfl, rfl, rfl⟩
  · have : k = l.length := by omega
    subst this
    rw [List.take_length] at hall
    rw [if_neg (fun e => e hall)]
    refine WC.seq ?_
    refine WC.region ?_
    refine WL.val (Val.lss rfl rfl (decide_eq_false (by omega))) rfl ?_
    refine WL.nil ?_
    refine WX.thenC ?_
    refine WC.seq ?_
    refine WC.condF rfl ?_
    refine WC.exit ?_
    refine WX.thenExit ?_
    refine WX.thenExit ?_
    refine WX.inHit ?_
    refine WX.thenC ?_
    refine WC.seq ?_
    refine WC.seq ?_
    by_cases hp : ph < 0
    · rw [if_pos (.inl hp)]
      refine WC.drawK 999 I0 [1] rfl (by kernel_rfl) rfl rfl ?_
      refine WA.take 0 rfl (by kernel_rfl) rfl (fun w h => (h.sub [1] rfl)) (Val.fldAddr rfl) rfl ?_
      refine WA.take 1 rfl (by kernel_rfl) rfl (fun w h => (h.sub [1] rfl)) (Val.loadS rfl (Rd.own1 0 rfl rfl)) rfl ?_
      refine WA.take 2 rfl (by kernel_rfl) rfl (fun w h => (h.sub [1] rfl)) (Val.lss rfl rfl (decide_eq_true (by omega))) rfl ?_
      refine WA.take 3 rfl (by kernel_rfl) rfl (fun w h => (h.sub [1] rfl)) (Val.moveB rfl) rfl ?_
      refine WA.takeGF 4 rfl (by kernel_rfl) rfl (fun w h => (h.sub [1] rfl)) rfl rfl rfl rfl ?_
      refine WA.takeGF 5 rfl (by kernel_rfl) rfl (fun w h => (h.sub [1] rfl)) rfl rfl rfl rfl ?_
      refine WA.takeGF 6 rfl (by kernel_rfl) rfl (fun w h => (h.sub [1] rfl)) rfl rfl rfl rfl ?_
      refine WA.takeGF 7 rfl (by kernel_rfl) rfl (fun w h => (h.sub [1] rfl)) rfl rfl rfl rfl ?_
      refine WA.takeGF 8 rfl (by kernel_rfl) rfl (fun w h => (h.sub [1] rfl)) rfl rfl rfl rfl ?_
      refine WA.take 9 rfl (by kernel_rfl) rfl (fun w h => (h.sub [1] rfl)) (Val.pick rfl) rfl ?_
      refine WA.done (by kernel_rfl) ?_
      refine WX.thenC ?_
      refine WC.condT rfl ?_
      refine WC.seq ?_
      refine WC.region ?_
      refine WL.val (Val.assignI rfl) rfl ?_
      refine WL.nil ?_
      refine WX.thenC ?_
      refine WC.ret ?_
      refine WX.thenRet ?_
      apply WX.doneP (ks := [])
      case hres => exact RunRes.r1 rfl (ResIs.tmpI rfl)
      case hI => first | exact Mem.le.refl _ | assumption
      exact ⟨rfl, rfl, rfl⟩
    · skip
      refine WC.drawK 999 I0 [1] rfl (by kernel_rfl) rfl rfl ?_
      refine WA.take 0 rfl (by kernel_rfl) rfl (fun w h => (h.sub [1] rfl)) (Val.fldAddr rfl) rfl ?_
      refine WA.take 1 rfl (by kernel_rfl) rfl (fun w h => (h.sub [1] rfl)) (Val.loadS rfl (Rd.own1 0 rfl rfl)) rfl ?_
      refine WA.take 2 rfl (by kernel_rfl) rfl (fun w h => (h.sub [1] rfl)) (Val.lss rfl rfl (decide_eq_false (by omega))) rfl ?_
      refine WA.take 3 rfl (by kernel_rfl) rfl (fun w h => (h.sub [1] rfl)) (Val.moveB rfl) rfl ?_
      refine WA.takeGT 4 rfl (by kernel_rfl) rfl (fun w h => (h.sub [1] rfl)) rfl rfl (Val.fldAddr rfl) rfl ?_
      refine WA.takeGT 5 rfl (by kernel_rfl) rfl (fun w h => (h.sub [1] rfl)) rfl rfl (Val.loadS rfl (Rd.own1 0 rfl rfl)) rfl ?_
      refine WA.takeGT 6 rfl (by kernel_rfl) rfl (fun w h => (h.sub [1] rfl)) rfl rfl (Val.ldO 0 rfl rfl rfl) rfl ?_
      refine WA.eff1 (i := 7) (by kernel_rfl) rfl rfl ?_
      refine WL.gT rfl rfl ?_
      refine WL.callS rfl rfl (sum_ctr l ph _ _ hv (by omega) hall) rfl ?_
      rintro _ rfl
      refine WL.nil ?_
      refine WK.anyStep (fun w h => (h.sub [1] rfl)) ?_
      by_cases hq : isum l ≤ ph
      · rw [if_pos (.inr hq)]
        refine WA.takeGT 8 rfl (by kernel_rfl) rfl (fun w h => (h.sub [1] rfl)) rfl rfl (Val.geq rfl rfl (decide_eq_true (by omega))) rfl ?_
        refine WA.take 9 rfl (by kernel_rfl) rfl (fun w h => (h.sub [1] rfl)) (Val.pick rfl) rfl ?_
        refine WA.done (by kernel_rfl) ?_
        refine WX.thenC ?_
        refine WC.condT rfl ?_
        refine WC.seq ?_
        refine WC.region ?_
        refine WL.val (Val.assignI rfl) rfl ?_
        refine WL.nil ?_
        refine WX.thenC ?_
        refine WC.ret ?_
        refine WX.thenRet ?_
        apply WX.doneP (ks := [])
        case hres => exact RunRes.r1 rfl (ResIs.tmpI rfl)
        case hI => first | exact Mem.le.refl _ | assumption
        exact ⟨rfl, rfl, rfl⟩
      · rw [if_neg (by omega)]
        refine WA.takeGT 8 rfl (by kernel_rfl) rfl (fun w h => (h.sub [1] rfl)) rfl rfl (Val.geq rfl rfl (decide_eq_false (by omega))) rfl ?_
        refine WA.take 9 rfl (by kernel_rfl) rfl (fun w h => (h.sub [1] rfl)) (Val.pick rfl) rfl ?_
        refine WA.done (by kernel_rfl) ?_
        refine WX.thenC ?_
        refine WC.condF rfl ?_
        refine WC.skip ?_
        refine WX.thenC ?_
        refine WC.seq ?_
        refine WC.region ?_
        refine WL.val (Val.assignI rfl) rfl ?_
        refine WL.nil ?_
        refine WX.thenC ?_
        refine WC.ret ?_
        apply WX.doneP (ks := [])
        case hres => exact RunRes.r1 rfl (ResIs.tmpI rfl)
        case hI => first | exact Mem.le.refl _ | assumption
        exact ⟨rfl, rfl, rfl⟩
end Go.Proofs.YtggcpoleklcmkaaGreatDoor
