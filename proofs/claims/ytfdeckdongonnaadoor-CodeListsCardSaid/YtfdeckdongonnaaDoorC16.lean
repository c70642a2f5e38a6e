/-
  Code, the walks: writing paths, attributes.
-/
import Derived.Test.YtfdeckdongonnaaDoorC15
namespace Go.Cd
open Go.Sl
theorem list_len {α : Type} (w : α → Bs) (h : ∀ a, 1 ≤ (w a).length) : ∀ l : List α, l.length ≤ ((l.map w).flatten).length
  | [] => by simp
  | a :: l => by
    have := list_len w h l
    have := h a
    rw [List.map_cons, List.flatten_cons, List.length_append, List.length_cons]
    omega
theorem eInt_pos (n : Int) : 1 ≤ (eInt n).length := Go.Proofs.YtfdeckdongonnaaDoor.leb_pos _
theorem Sg.w_pos (s : Sg) : 1 ≤ s.w.length := by
  have := eInt_pos s.kind
  unfold Sg.w
  rw [List.length_append]
  omega
end Go.Cd
namespace Go.Proofs.YtfdeckdongonnaaDoor
open Go.Sl Go.Cd
set_option maxRecDepth 100000
set_option maxHeartbeats 4000000
set_option linter.unusedVariables false
attribute [local irreducible] WC WL WX WK WA WAK Val Ctr RunRes ResIs Rd At sl box pt Exit.then Exit.inBlock bodyPost Code.wp wpList
/-- (*out).path -/
theorem opath_ctr (o : Nat) (l : List Sg) (v : Value) (sv : Value) (bad : Bool) (bs : Bs) (I : Mem) (hN : NeedAt I) (hv : LsAt Sg.rep I l v) (hl : (bs ++ lw Sg.w l).length ≤ 1099511627776) :
    Ctr Tryd.prog 71 [ptr o, v] I (outL o sv bad bs) (WrP o (lw Sg.w l) (bad || decide (4096 < (l.length : Int)) || !l.all Sg.wok) bs) := by
  obtain ⟨a1, q1, rfl⟩ := hv.sl
  have hb : ∀ k, (bs ++ eInt l.length ++ lk Sg.w l k).length ≤ 1099511627776 := by
    intro k
    have h1 := lk_le Sg.w l k
    simp only [lw, List.length_append] at hl ⊢
    omega
  have hb0 := hb 0
  have hb1 := hb l.length
  rw [lk_all] at hb1
  simp only [List.length_append] at hb0 hb1
  have hlen := list_len Sg.w Sg.w_pos l
  refine Ctr.intro Tryd.func71 rfl rfl rfl fun E F => ?_
  refine WC.seq ?_
  refine WC.region ?_
  refine WL.val (Val.moveP rfl) rfl ?_
  refine WL.val (Val.moveS rfl) rfl ?_
  refine WL.val (Val.len rfl) rfl ?_
  refine WL.callP [1, 1] rfl rfl (ocount_ctr o l.length 4096 sv bad _ _ ⟨by omega, by omega⟩ (by omega)) rfl ?_
  rintro _ I1 _ hI1 ⟨sv1, rfl⟩
  refine WL.nApp ?_
  refine WL.nil ?_
  refine WX.thenC ?_
  refine WC.seq ?_
  refine WC.region ?_
  refine WL.val (Val.moveS rfl) rfl ?_
  refine WL.val (Val.len rfl) rfl ?_
  refine WL.val (Val.moveI rfl) rfl ?_
  refine WL.nil ?_
  refine WX.thenC ?_
  refine WC.block ?_
  refine WC.loop (fun m ρ' I' L' => ∃ k : Nat, ∃ sv', m = l.length - k ∧ k ≤ l.length ∧ I1.le I' ∧ ρ' 0 = ptr o ∧ ρ' 10 = .slice a1 l.length q1 ∧ ρ' 11 = vi l.length ∧ ρ' 12 = vi k ∧
      L' = F :: outL o sv' (bad || decide (4096 < (l.length : Int)) || !(l.take k).all Sg.wok) (bs ++ eInt l.length ++ lk Sg.w l k))
    l.length ⟨0, sv1, rfl, by omega, Mem.le.refl _, rfl, rfl, rfl, rfl, by rw [lk_zero, List.append_nil]; simp⟩ ?_
  rintro m ρ' I5 L' ⟨k, sv', rfl, hk, hI5, h0, h10, h11, h12, rfl⟩
  rw [← upd_self h12, ← upd_self h11, ← upd_self h10, ← upd_self h0]
  clear h12 h11 h10 h0
  have hst := (hv.mono hI1).mono hI5
  by_cases hkn : k < l.length
  · obtain ⟨b, off, cap', cs, he, ⟨rfl, hi⟩, hA⟩ := hst.get k hkn
    cases he
    have hs := lk_succ Sg.w l k hkn
    have hb2 := hb (k + 1)
    rw [hs, ← List.append_assoc] at hb2
    refine WC.seq ?_
    refine WC.region ?_
    refine WL.val (Val.lss rfl rfl (decide_eq_true (by omega))) rfl ?_
    refine WL.nil ?_
    refine WX.thenC ?_
    refine WC.seq ?_
    refine WC.condT rfl ?_
    refine WC.skip ?_
    refine WX.thenC ?_
    refine WC.seq ?_
    refine WC.block ?_
    refine WC.seq ?_
    refine WC.region ?_
    refine WL.val (Val.indexAddr rfl rfl (by omega) (by omega)) rfl ?_
    refine WL.val (Val.loadI rfl (by assumption) rfl) rfl ?_
    (refine WL.alloc rfl ?_; intro _)
    refine WL.nApp ?_
    refine WL.stA 3 rfl rfl rfl rfl ?_
    refine WL.nil ?_
    refine WX.thenC ?_
    refine WC.region ?_
    refine WL.val (Val.moveP rfl) rfl ?_
    refine WL.val (Val.ldO 3 rfl rfl rfl) rfl ?_
    refine WL.callP [1, 1] rfl rfl (oseg_ctr o l[k] sv' _ _ _ ((hN.mono hI1).mono hI5) hi hb2) rfl ?_
    rintro _ I6 _ hI6 ⟨sv6, rfl⟩
    refine WL.nApp ?_
    refine WL.nil ?_
    refine WX.inNormal ?_
    refine WX.thenC ?_
    refine WC.region ?_
    refine WL.val (Val.add rfl rfl (wrap_i64 (by omega) (by omega))) rfl ?_
    refine WL.val (Val.moveI rfl) rfl ?_
    refine WL.nil ?_
    refine WX.conv (fun w h => h.sub [0, 1, 1] rfl) ?_
    refine WX.thenK (WK.round (l.length - (k + 1)) (by omega) ⟨k + 1, sv6, rfl, by omega, hI5.trans hI6, rfl, rfl, rfl, rfl, ?_⟩)
    rw [hs, ← List.append_assoc, List.take_succ_eq_append_getElem hkn, List.all_append]
    rw [show (bad || decide (4096 < (l.length : Int)) || !((l.take k).all Sg.wok && [l[k]].all Sg.wok)) = (bad || decide (4096 < (l.length : Int)) || !(l.take k).all Sg.wok || !(l[k]).wok) by simp [Bool.or_assoc]]
  · skip
    refine WC.seq ?_
    refine WC.region ?_
    refine WL.val (Val.lss rfl rfl (decide_eq_false (by omega))) rfl ?_
    refine WL.nil ?_
    refine WX.thenC ?_
    refine WC.seq ?_
    refine WC.condF rfl ?_
    refine WC.exit ?_
    refine WX.thenExit ?_
    refine WX.thenExit ?_
    refine WX.inHit ?_
    have hI := hI1.trans hI5
    apply WX.doneN (ks := [0, 0])
    case hres => exact RunRes.r0 rfl
    case hp => rfl
    case hI => first | exact Mem.le.refl _ | assumption
    obtain rfl : k = l.length := by omega
    refine ⟨sv', ?_⟩
    rw [List.take_length, lk_all, lw, ← List.append_assoc]
end Go.Proofs.YtfdeckdongonnaaDoor
