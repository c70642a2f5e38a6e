/-
  Code, the walks: the laws.
-/
import Derived.Test.YtfdeckdongonnaaDoorC30
import Derived.Test.YtfdeckdongonnaaDoorSepH
namespace Go.Cd
open Go.Sl
theorem Cm.named_ents {c : Cm} (h : c.kind ≠ 1) : c.named.ents = [] := by
  unfold Cm.named
  rw [if_neg h]
  by_cases k2 : c.kind = 2
  · rw [if_pos k2]
  rw [if_neg k2]
  by_cases k3 : c.kind = 3
  · rw [if_pos k3]
  rw [if_neg k3]
  by_cases k4 : c.kind = 4
  · rw [if_pos k4]
  rw [if_neg k4]
  by_cases k5 : c.kind = 5
  · rw [if_pos k5]
  rw [if_neg k5]
  by_cases k6 : c.kind = 6
  · rw [if_pos k6]
  rw [if_neg k6]
  by_cases k7 : c.kind = 7
  · rw [if_pos k7]
  rw [if_neg k7]
  by_cases k8 : c.kind = 8
  · rw [if_pos k8]
  rw [if_neg k8]
  by_cases k9 : c.kind = 9
  · rw [if_pos k9]
  rw [if_neg k9]
  by_cases k10 : c.kind = 10
  · rw [if_pos k10]
  rw [if_neg k10]
  by_cases k11 : c.kind = 11
  · rw [if_pos k11]
  rw [if_neg k11]
  by_cases k12 : c.kind = 12
  · rw [if_pos k12]
  rw [if_neg k12]
theorem Cm.plain_pl {c : Cm} (hf : c.fine) (h : c.plain) : c.pl := by
  refine (Cm.plain_iff hf ?_).1 h
  by_cases k1 : c.kind = 1
  · have := h.2.2.2
    unfold Cm.okK at this
    rw [if_pos k1] at this
    exact this.2.2.1
  · rw [← h.2.2.1, Cm.named_ents k1]
    exact Nat.zero_le _
theorem Byt.empty {I : Mem} {u : Value} (h : Byt I u []) : ∃ a cap, u = .slice a 0 cap := by
  obtain ⟨a, c, h, _⟩ := SlAt.len h; exact ⟨a, c, h⟩
end Go.Cd
namespace Go.Proofs.YtfdeckdongonnaaDoor
open Go.Sl Go.Cd
set_option maxRecDepth 100000
set_option maxHeartbeats 8000000
set_option linter.unusedVariables false
attribute [local irreducible] WC WL WX WK WA WAK Val Ctr RunRes ResIs Rd At sl box pt Exit.then Exit.inBlock bodyPost Code.wp wpList
abbrev Yes : Value → Mem → List HP → Prop := fun v _ L' => L' = [] ∧ v = .bool true
theorem codeReads_ctr (v : Value) (bs : Bs) (I : Mem) (hN : NeedAt I) (hb : Byt I v bs) : Ctr Tryd.prog 3 [v] I [] Yes := by
  have hb0 := hb
  obtain ⟨a1, c1, rfl, _⟩ := SlAt.len hb
  refine Ctr.intro Tryd.func3 rfl rfl rfl fun E F => ?_
  by_cases hbig : (1000 : Int) < bs.length
  · skip
    refine WC.seq ?_
    refine WC.region ?_
    refine WL.val (Val.assignB rfl) rfl ?_
    refine WL.nil ?_
    refine WX.thenC ?_
    refine WC.seq ?_
    refine WC.seq ?_
    refine WC.region ?_
    refine WL.val (Val.moveS rfl) rfl ?_
    refine WL.val (Val.len rfl) rfl ?_
    refine WL.val (Val.gtr rfl rfl (decide_eq_true (by omega))) rfl ?_
    refine WL.nil ?_
    refine WX.thenC ?_
    refine WC.condT rfl ?_
    refine WC.seq ?_
    refine WC.region ?_
    refine WL.callP [] rfl rfl (awake_ctr _ (hN)) rfl ?_
    rintro _ J _ hJ ⟨rfl, rfl⟩
    refine WL.nApp ?_
    refine WL.val (Val.assignB rfl) rfl ?_
    refine WL.nil ?_
    refine WX.thenC ?_
    refine WC.ret ?_
    refine WX.thenRet ?_
    apply WX.doneP (ks := [])
    case hres => exact RunRes.r1 rfl (ResIs.tmpB rfl)
    case hI => first | exact Mem.le.refl _ | assumption
    exact ⟨rfl, rfl⟩
  refine WC.seq ?_
  refine WC.region ?_
  refine WL.val (Val.assignB rfl) rfl ?_
  refine WL.nil ?_
  refine WX.thenC ?_
  refine WC.seq ?_
  refine WC.seq ?_
  refine WC.region ?_
  refine WL.val (Val.moveS rfl) rfl ?_
  refine WL.val (Val.len rfl) rfl ?_
  refine WL.val (Val.gtr rfl rfl (decide_eq_false (by omega))) rfl ?_
  refine WL.nil ?_
  refine WX.thenC ?_
  refine WC.condF rfl ?_
  refine WC.skip ?_
  refine WX.thenC ?_
  refine WC.seq ?_
  refine WC.region ?_
  refine WL.val (Val.moveS rfl) rfl ?_
  refine WL.callP [] rfl rfl (readCommand_ctr _ bs _ hN hb (by omega)) rfl ?_
  rintro _ I1 _ hI1 ⟨rfl, x, e, t, u, d, q, r, rfl, hx, ⟨rfl, hp, hw, hu⟩ | ⟨rfl, rfl, hno⟩⟩
  · obtain ⟨b0, r0, b1, r1, b2, r2, b3, r3, b4, r4, rfl, rfl, rfl, rfl, rfl⟩ := hx.sl
    have hpl := Cm.plain_pl hx.fine hp
    have hN1 := hN.mono hI1
    refine WL.nApp ?_
    refine WL.val (Val.moveT rfl) rfl ?_
    refine WL.val (Val.extractA rfl rfl) rfl ?_
    refine WL.val (Val.extractI rfl rfl) rfl ?_
    (refine WL.alloc rfl ?_; intro _)
    refine WL.nApp ?_
    refine WL.stA 1 rfl rfl rfl rfl ?_
    refine WL.val (Val.assignI rfl) rfl ?_
    refine WL.nil ?_
    refine WX.thenC ?_
    refine WC.seq ?_
    refine WC.seq ?_
    refine WC.region ?_
    refine WL.val (Val.moveI rfl) rfl ?_
    refine WL.val (Val.neq rfl rfl (bne_eq_false_iff_eq.2 (by omega))) rfl ?_
    refine WL.nil ?_
    refine WX.thenC ?_
    refine WC.condF rfl ?_
    refine WC.skip ?_
    refine WX.thenC ?_
    refine WC.seq ?_
    refine WC.drawK 999 I1 [1] rfl (by kernel_rfl) rfl rfl ?_
    refine WA.take 0 rfl (by kernel_rfl) rfl (fun w h => (h.sub [1] rfl)) (Val.ldO 0 rfl rfl rfl) rfl ?_
    refine WA.eff1 (i := 1) (by kernel_rfl) rfl rfl ?_
    skip
    refine WL.callE rfl rfl (right_ctr x _ _ _ _ _ _ hN1 hx) rfl (fun _ => ?_) (fun h => absurd hpl h)
    refine WL.nil ?_
    refine WK.anyStep (fun w h => (h.sub [1] rfl)) ?_
    refine WA.take 2 rfl (by kernel_rfl) rfl (fun w h => (h.sub [1] rfl)) (Val.moveB rfl) rfl ?_
    refine WA.takeGT 3 rfl (by kernel_rfl) rfl (fun w h => (h.sub [1] rfl)) rfl rfl (Val.ldO 0 rfl rfl rfl) rfl ?_
    refine WA.takeGT 6 rfl (by kernel_rfl) rfl (fun w h => (h.sub [1] rfl)) rfl rfl (Val.moveS rfl) rfl ?_
    first | refine WA.take 7 rfl (by kernel_rfl) rfl (fun w h => (h.sub [1] rfl)) (Val.str rfl (hb.mono hI1)) rfl ?_ | refine WA.takeGT 7 rfl (by kernel_rfl) rfl (fun w h => (h.sub [1] rfl)) rfl rfl (Val.str rfl (hb.mono hI1)) rfl ?_
    refine WA.eff1 (i := 4) (by kernel_rfl) rfl rfl ?_
    refine WL.gT rfl rfl ?_
    refine WL.callF rfl rfl (cmdB x _ _ _ _ _ _ hN1 hx hpl (by rw [hw]; omega)).frzB rfl fun a2 q2 I2 hI2 hB2 => ?_
    refine WL.nil ?_
    refine WK.anyStep (fun w h => (h.sub [1] rfl).less (hI2)) ?_
    refine WA.eff1 (i := 5) (by kernel_rfl) rfl rfl ?_
    refine WL.gT rfl rfl ?_
    refine WL.val (Val.str rfl hB2) rfl ?_
    refine WL.nil ?_
    refine WK.anyStep (fun w h => (h.sub [1] rfl).less (hI2)) ?_
    first | refine WA.take 8 rfl (by kernel_rfl) rfl (fun w h => (h.sub [1] rfl).less (hI2)) (Val.eqlStrT rfl rfl hw) rfl ?_ | refine WA.takeGT 8 rfl (by kernel_rfl) rfl (fun w h => (h.sub [1] rfl).less (hI2)) rfl rfl (Val.eqlStrT rfl rfl hw) rfl ?_
    refine WA.take 9 rfl (by kernel_rfl) rfl (fun w h => (h.sub [1] rfl).less (hI2)) (Val.pick rfl) rfl ?_
    refine WA.take 10 rfl (by kernel_rfl) rfl (fun w h => (h.sub [1] rfl).less (hI2)) (Val.moveB rfl) rfl ?_
    refine WA.eff1 (i := 11) (by kernel_rfl) rfl rfl ?_
    refine WL.gT rfl rfl ?_
    refine WL.callP [] rfl rfl (awake_ctr _ (hN1.mono hI2)) rfl ?_
    rintro _ J _ hJ ⟨rfl, rfl⟩
    refine WL.nApp ?_
    refine WL.nil ?_
    refine WK.anyStep (fun w h => (h.sub [1] rfl).less (hI2.trans hJ)) ?_
    refine WA.take 12 rfl (by kernel_rfl) rfl (fun w h => (h.sub [1] rfl).less (hI2.trans hJ)) (Val.pick rfl) rfl ?_
    refine WA.take 13 rfl (by kernel_rfl) rfl (fun w h => (h.sub [1] rfl).less (hI2.trans hJ)) (Val.assignB rfl) rfl ?_
    refine WA.done (by kernel_rfl) ?_
    refine WX.thenC ?_
    refine WC.ret ?_
    have hK := (hI1.trans hI2).trans hJ
    apply WX.doneP (ks := [])
    case hres => exact RunRes.r1 rfl (ResIs.tmpB rfl)
    case hI => first | exact Mem.le.refl _ | assumption
    exact ⟨rfl, rfl⟩
  · obtain ⟨b0, r0, b1, r1, b2, r2, b3, r3, b4, r4, rfl, rfl, rfl, rfl, rfl⟩ := hx.sl
    refine WL.nApp ?_
    refine WL.val (Val.moveT rfl) rfl ?_
    refine WL.val (Val.extractA rfl rfl) rfl ?_
    refine WL.val (Val.extractI rfl rfl) rfl ?_
    (refine WL.alloc rfl ?_; intro _)
    refine WL.nApp ?_
    refine WL.stA 1 rfl rfl rfl rfl ?_
    refine WL.val (Val.assignI rfl) rfl ?_
    refine WL.nil ?_
    refine WX.thenC ?_
    refine WC.seq ?_
    refine WC.seq ?_
    refine WC.region ?_
    refine WL.val (Val.moveI rfl) rfl ?_
    refine WL.val (Val.neq rfl rfl (bne_iff_ne.2 (by omega))) rfl ?_
    refine WL.nil ?_
    refine WX.thenC ?_
    refine WC.condT rfl ?_
    refine WC.seq ?_
    refine WC.region ?_
    refine WL.val (Val.moveI rfl) rfl ?_
    refine WL.val (Val.eql rfl rfl (beq_iff_eq.2 (by omega))) rfl ?_
    refine WL.val (Val.moveB rfl) rfl ?_
    refine WL.gT rfl rfl ?_
    refine WL.val (Val.ldO 1 rfl rfl rfl) rfl ?_
    refine WL.gT rfl rfl ?_
    refine WL.val (Val.build0) rfl ?_
    refine WL.gT rfl rfl ?_
    refine WL.callE rfl rfl (eqCm Cm.z Cm.z _ _ _ _ _ _ _ _ _ _ _ hx (Cm.z_at _)) rfl (fun _ => ?_) (fun h => absurd rfl h)
    refine WL.val (Val.pick rfl) rfl ?_
    refine WL.val (Val.moveB rfl) rfl ?_
    refine WL.gT rfl rfl ?_
    refine WL.callP [] rfl rfl (awake_ctr _ (hN.mono hI1)) rfl ?_
    rintro _ J _ hJ ⟨rfl, rfl⟩
    refine WL.nApp ?_
    refine WL.val (Val.pick rfl) rfl ?_
    refine WL.val (Val.assignB rfl) rfl ?_
    refine WL.nil ?_
    refine WX.thenC ?_
    refine WC.ret ?_
    refine WX.thenRet ?_
    have hK := hI1.trans hJ
    apply WX.doneP (ks := [])
    case hres => exact RunRes.r1 rfl (ResIs.tmpB rfl)
    case hI => first | exact Mem.le.refl _ | assumption
    exact ⟨rfl, rfl⟩
theorem codeCommands_ctr (c : Cm) (e t u d q : Value) (I : Mem) (hN : NeedAt I) (hc : c.at_ I e t u d q) : Ctr Tryd.prog 4 [.agg (c.cs e t u d q).toArray] I [] Yes := by
  have hc0 := hc
  obtain ⟨a0, c0, a1, c1, a2, c2, a3, c3, a4, c4, rfl, rfl, rfl, rfl, rfl⟩ := hc.sl
  refine Ctr.intro Tryd.func4 rfl rfl rfl fun E F => ?_
  refine WC.seq ?_
  refine WC.region ?_
  (refine WL.boxA rfl rfl ?_; intro _)
  refine WL.nApp ?_
  refine WL.val (Val.assignB rfl) rfl ?_
  refine WL.nil ?_
  refine WX.thenC ?_
  refine WC.seq ?_
  refine WC.seq ?_
  refine WC.region ?_
  refine WL.val (Val.ldO 1 rfl rfl rfl) rfl ?_
  refine WL.callE rfl rfl (small_ctr c _ _ _ _ _ _ hc) rfl (fun hs => ?_) (fun h => ?_)
  rotate_left
  · skip
    refine WL.val (Val.not rfl) rfl ?_
    refine WL.nil ?_
    refine WX.thenC ?_
    refine WC.condT rfl ?_
    refine WC.seq ?_
    refine WC.region ?_
    refine WL.callP [] rfl rfl (awake_ctr _ (hN)) rfl ?_
    rintro _ J _ hJ ⟨rfl, rfl⟩
    refine WL.nApp ?_
    refine WL.val (Val.assignB rfl) rfl ?_
    refine WL.nil ?_
    refine WX.thenC ?_
    refine WC.ret ?_
    refine WX.thenRet ?_
    apply WX.doneP (ks := [])
    case hres => exact RunRes.r1 rfl (ResIs.tmpB rfl)
    case hI => first | exact Mem.le.refl _ | assumption
    exact ⟨rfl, rfl⟩
  have hl := Cm.w_len hc.fine hs
  have hiff := Cm.plain_iff hc.fine (by have := hs.2.1; omega)
  refine WL.val (Val.not rfl) rfl ?_
  refine WL.nil ?_
  refine WX.thenC ?_
  refine WC.condF rfl ?_
  refine WC.skip ?_
  refine WX.thenC ?_
  refine WC.seq ?_
  refine WC.region ?_
  refine WL.val (Val.ldO 1 rfl rfl rfl) rfl ?_
  refine WL.callP [] rfl rfl (command2_ctr c _ _ _ _ _ _ hN hc (by omega)) rfl ?_
  rintro _ I2 _ hI2 ⟨rfl, v1, r, rfl, ⟨hp, rfl, hB⟩ | ⟨hp, rfl, hB⟩⟩
  · obtain ⟨p1, k1, rfl, _⟩ := SlAt.len hB
    have hN2 := hN.mono hI2
    have hc2 := hc.mono hI2
    refine WL.nApp ?_
    refine WL.val (Val.moveT rfl) rfl ?_
    refine WL.val (Val.extractS rfl rfl) rfl ?_
    refine WL.val (Val.extractI rfl rfl) rfl ?_
    refine WL.val (Val.assignS rfl) rfl ?_
    refine WL.val (Val.assignI rfl) rfl ?_
    refine WL.nil ?_
    refine WX.thenC ?_
    refine WC.seq ?_
    refine WC.seq ?_
    refine WC.region ?_
    refine WL.val (Val.ldO 1 rfl rfl rfl) rfl ?_
    refine WL.callE rfl rfl (right_ctr c _ _ _ _ _ _ hN2 hc2) rfl (fun _ => ?_) (fun h => absurd (hiff.1 hp) h)
    refine WL.val (Val.not rfl) rfl ?_
    refine WL.nil ?_
    refine WX.thenC ?_
    refine WC.condF rfl ?_
    refine WC.skip ?_
    refine WX.thenC ?_
    refine WC.seq ?_
    refine WC.region ?_
    refine WL.val (Val.moveS rfl) rfl ?_
    refine WL.callP [] rfl rfl (readCommand_ctr _ c.w _ hN2 hB (by omega)) rfl ?_
    rintro _ I3 _ hI3 ⟨rfl, x, e, t, u, d, q, r, rfl, hx, ⟨rfl, _, _, hu⟩ | ⟨rfl, _, hno⟩⟩
    · obtain rfl : c = x := (hu c hp rfl).symm
      obtain ⟨b0, r0, b1, r1, b2, r2, b3, r3, b4, r4, rfl, rfl, rfl, rfl, rfl⟩ := hx.sl
      have hN3 := hN2.mono hI3
      have hc3 := hc2.mono hI3
      refine WL.nApp ?_
      refine WL.val (Val.moveT rfl) rfl ?_
      refine WL.val (Val.extractA rfl rfl) rfl ?_
      refine WL.val (Val.extractI rfl rfl) rfl ?_
      (refine WL.alloc rfl ?_; intro _)
      refine WL.nApp ?_
      refine WL.stA 2 rfl rfl rfl rfl ?_
      refine WL.val (Val.assignI rfl) rfl ?_
      refine WL.nil ?_
      refine WX.thenC ?_
      refine WC.seq ?_
      refine WC.drawK 999 I3 [1, 1] rfl (by kernel_rfl) rfl rfl ?_
      refine WA.take 0 rfl (by kernel_rfl) rfl (fun w h => (h.sub [1, 1] rfl)) (Val.moveI rfl) rfl ?_
      refine WA.take 1 rfl (by kernel_rfl) rfl (fun w h => (h.sub [1, 1] rfl)) (Val.eql rfl rfl (beq_iff_eq.2 (by omega))) rfl ?_
      refine WA.take 2 rfl (by kernel_rfl) rfl (fun w h => (h.sub [1, 1] rfl)) (Val.moveB rfl) rfl ?_
      refine WA.takeGT 3 rfl (by kernel_rfl) rfl (fun w h => (h.sub [1, 1] rfl)) rfl rfl (Val.ldO 0 rfl rfl rfl) rfl ?_
      refine WA.eff1 (i := 4) (by kernel_rfl) rfl rfl ?_
      refine WL.gT rfl rfl ?_
      refine WL.callP [] rfl rfl (plain_ctr c _ _ _ _ _ _ hN3 hc3 (by omega)) rfl ?_
      rintro _ I4 _ hI4 ⟨rfl, b, rfl, hb⟩
      obtain rfl : b = true := hb.2 hp
      refine WL.nApp ?_
      refine WL.nil ?_
      refine WK.anyStep (fun w h => (h.sub [1, 1] rfl).less (hI4)) ?_
      refine WA.take 5 rfl (by kernel_rfl) rfl (fun w h => (h.sub [1, 1] rfl).less (hI4)) (Val.pick rfl) rfl ?_
      refine WA.take 6 rfl (by kernel_rfl) rfl (fun w h => (h.sub [1, 1] rfl).less (hI4)) (Val.moveB rfl) rfl ?_
      refine WA.takeGT 7 rfl (by kernel_rfl) rfl (fun w h => (h.sub [1, 1] rfl).less (hI4)) rfl rfl (Val.moveS rfl) rfl ?_
      refine WA.takeGT 9 rfl (by kernel_rfl) rfl (fun w h => (h.sub [1, 1] rfl).less (hI4)) rfl rfl (Val.ldO 0 rfl rfl rfl) rfl ?_
      first | refine WA.take 8 rfl (by kernel_rfl) rfl (fun w h => (h.sub [1, 1] rfl).less (hI4)) (Val.str rfl (hB.mono hI3)) rfl ?_ | refine WA.takeGT 8 rfl (by kernel_rfl) rfl (fun w h => (h.sub [1, 1] rfl).less (hI4)) rfl rfl (Val.str rfl (hB.mono hI3)) rfl ?_
      refine WA.eff1 (i := 10) (by kernel_rfl) rfl rfl ?_
      refine WL.gT rfl rfl ?_
      refine WL.callF rfl rfl (cmdB c _ _ _ _ _ _ (hN3.mono hI4) (hc3.mono hI4) (hiff.1 hp) (by omega)).frzB rfl fun a5 q5 I5 hI5 hB5 => ?_
      refine WL.nil ?_
      refine WK.anyStep (fun w h => (h.sub [1, 1] rfl).less (hI4.trans hI5)) ?_
      refine WA.eff1 (i := 11) (by kernel_rfl) rfl rfl ?_
      refine WL.gT rfl rfl ?_
      refine WL.val (Val.str rfl hB5) rfl ?_
      refine WL.nil ?_
      refine WK.anyStep (fun w h => (h.sub [1, 1] rfl).less (hI4.trans hI5)) ?_
      first | refine WA.take 12 rfl (by kernel_rfl) rfl (fun w h => (h.sub [1, 1] rfl).less (hI4.trans hI5)) (Val.eqlStrT rfl rfl rfl) rfl ?_ | refine WA.takeGT 12 rfl (by kernel_rfl) rfl (fun w h => (h.sub [1, 1] rfl).less (hI4.trans hI5)) rfl rfl (Val.eqlStrT rfl rfl rfl) rfl ?_
      refine WA.take 13 rfl (by kernel_rfl) rfl (fun w h => (h.sub [1, 1] rfl).less (hI4.trans hI5)) (Val.pick rfl) rfl ?_
      refine WA.take 14 rfl (by kernel_rfl) rfl (fun w h => (h.sub [1, 1] rfl).less (hI4.trans hI5)) (Val.moveB rfl) rfl ?_
      refine WA.takeGT 15 rfl (by kernel_rfl) rfl (fun w h => (h.sub [1, 1] rfl).less (hI4.trans hI5)) rfl rfl (Val.moveI rfl) rfl ?_
      refine WA.takeGT 16 rfl (by kernel_rfl) rfl (fun w h => (h.sub [1, 1] rfl).less (hI4.trans hI5)) rfl rfl (Val.eql rfl rfl (beq_iff_eq.2 (by omega))) rfl ?_
      refine WA.take 17 rfl (by kernel_rfl) rfl (fun w h => (h.sub [1, 1] rfl).less (hI4.trans hI5)) (Val.pick rfl) rfl ?_
      refine WA.take 18 rfl (by kernel_rfl) rfl (fun w h => (h.sub [1, 1] rfl).less (hI4.trans hI5)) (Val.moveB rfl) rfl ?_
      refine WA.takeGT 19 rfl (by kernel_rfl) rfl (fun w h => (h.sub [1, 1] rfl).less (hI4.trans hI5)) rfl rfl (Val.ldO 1 rfl rfl rfl) rfl ?_
      refine WA.takeGT 20 rfl (by kernel_rfl) rfl (fun w h => (h.sub [1, 1] rfl).less (hI4.trans hI5)) rfl rfl (Val.ldO 0 rfl rfl rfl) rfl ?_
      refine WA.eff1 (i := 21) (by kernel_rfl) rfl rfl ?_
      refine WL.gT rfl rfl ?_
      refine WL.callE rfl rfl (eqCm c c _ _ _ _ _ _ _ _ _ _ _ ((hx.mono hI4).mono hI5) ((hc3.mono hI4).mono hI5)) rfl (fun _ => ?_) (fun h => absurd rfl h)
      refine WL.nil ?_
      refine WK.anyStep (fun w h => (h.sub [1, 1] rfl).less (hI4.trans hI5)) ?_
      refine WA.take 22 rfl (by kernel_rfl) rfl (fun w h => (h.sub [1, 1] rfl).less (hI4.trans hI5)) (Val.pick rfl) rfl ?_
      refine WA.take 23 rfl (by kernel_rfl) rfl (fun w h => (h.sub [1, 1] rfl).less (hI4.trans hI5)) (Val.moveB rfl) rfl ?_
      refine WA.eff1 (i := 24) (by kernel_rfl) rfl rfl ?_
      refine WL.gT rfl rfl ?_
      refine WL.callP [] rfl rfl (awake_ctr _ ((hN3.mono hI4).mono hI5)) rfl ?_
      rintro _ J _ hJ ⟨rfl, rfl⟩
      refine WL.nApp ?_
      refine WL.nil ?_
      refine WK.anyStep (fun w h => (h.sub [1, 1] rfl).less ((hI4.trans hI5).trans hJ)) ?_
      refine WA.take 25 rfl (by kernel_rfl) rfl (fun w h => (h.sub [1, 1] rfl).less ((hI4.trans hI5).trans hJ)) (Val.pick rfl) rfl ?_
      refine WA.take 26 rfl (by kernel_rfl) rfl (fun w h => (h.sub [1, 1] rfl).less ((hI4.trans hI5).trans hJ)) (Val.assignB rfl) rfl ?_
      refine WA.done (by kernel_rfl) ?_
      refine WX.thenC ?_
      refine WC.ret ?_
      have hK := (hI2.trans hI3).trans ((hI4.trans hI5).trans hJ)
      apply WX.doneP (ks := [])
      case hres => exact RunRes.r1 rfl (ResIs.tmpB rfl)
      case hI => first | exact Mem.le.refl _ | assumption
      exact ⟨rfl, rfl⟩
    · exact absurd rfl (hno c hp)
  · obtain ⟨p1, k1, rfl⟩ := Byt.empty hB
    have hN2 := hN.mono hI2
    have hc2 := hc.mono hI2
    refine WL.nApp ?_
    refine WL.val (Val.moveT rfl) rfl ?_
    refine WL.val (Val.extractS rfl rfl) rfl ?_
    refine WL.val (Val.extractI rfl rfl) rfl ?_
    refine WL.val (Val.assignS rfl) rfl ?_
    refine WL.val (Val.assignI rfl) rfl ?_
    refine WL.nil ?_
    refine WX.thenC ?_
    refine WC.seq ?_
    refine WC.seq ?_
    refine WC.region ?_
    refine WL.val (Val.ldO 1 rfl rfl rfl) rfl ?_
    refine WL.callE rfl rfl (right_ctr c _ _ _ _ _ _ hN2 hc2) rfl (fun h => absurd (hiff.2 h) hp) (fun _ => ?_)
    refine WL.val (Val.not rfl) rfl ?_
    refine WL.nil ?_
    refine WX.thenC ?_
    refine WC.condT rfl ?_
    refine WC.seq ?_
    refine WC.region ?_
    refine WL.val (Val.moveI rfl) rfl ?_
    refine WL.val (Val.eql rfl rfl (beq_iff_eq.2 (by omega))) rfl ?_
    refine WL.val (Val.moveB rfl) rfl ?_
    refine WL.gT rfl rfl ?_
    refine WL.val (Val.moveS rfl) rfl ?_
    refine WL.gT rfl rfl ?_
    refine WL.val (Val.len rfl) rfl ?_
    refine WL.gT rfl rfl ?_
    refine WL.val (Val.eql rfl rfl (beq_iff_eq.2 (by omega))) rfl ?_
    refine WL.val (Val.pick rfl) rfl ?_
    refine WL.val (Val.moveB rfl) rfl ?_
    refine WL.gT rfl rfl ?_
    refine WL.val (Val.ldO 1 rfl rfl rfl) rfl ?_
    refine WL.gT rfl rfl ?_
    refine WL.callP [] rfl rfl (plain_ctr c _ _ _ _ _ _ hN2 hc2 (by omega)) rfl ?_
    rintro _ I4 _ hI4 ⟨rfl, b, rfl, hb⟩
    obtain rfl : b = false := by
      cases b
      · rfl
      · exact absurd (hb.1 rfl) hp
    refine WL.nApp ?_
    refine WL.gT rfl rfl ?_
    refine WL.val (Val.not rfl) rfl ?_
    refine WL.val (Val.pick rfl) rfl ?_
    refine WL.val (Val.moveB rfl) rfl ?_
    refine WL.gT rfl rfl ?_
    refine WL.callP [] rfl rfl (awake_ctr _ (hN2.mono hI4)) rfl ?_
    rintro _ J _ hJ ⟨rfl, rfl⟩
    refine WL.nApp ?_
    refine WL.val (Val.pick rfl) rfl ?_
    refine WL.val (Val.assignB rfl) rfl ?_
    refine WL.nil ?_
    refine WX.thenC ?_
    refine WC.ret ?_
    refine WX.thenRet ?_
    have hK := (hI2.trans hI4).trans hJ
    apply WX.doneP (ks := [])
    case hres => exact RunRes.r1 rfl (ResIs.tmpB rfl)
    case hI => first | exact Mem.le.refl _ | assumption
    exact ⟨rfl, rfl⟩
theorem codeEntries_ctr (l : List Ent) (v : Value) (I : Mem) (hN : NeedAt I) (hv : LsAt Ent.rep I l v) : Ctr Tryd.prog 7 [v] I [] Yes := by
  have hv0 := hv
  obtain ⟨a0, c0, rfl⟩ := hv.sl
  refine Ctr.intro Tryd.func7 rfl rfl rfl fun E F => ?_
  refine WC.seq ?_
  refine WC.region ?_
  refine WL.val (Val.assignB rfl) rfl ?_
  refine WL.nil ?_
  refine WX.thenC ?_
  refine WC.seq ?_
  refine WC.seq ?_
  refine WC.region ?_
  refine WL.val (Val.moveS rfl) rfl ?_
  refine WL.val (Val.build (cs := (vi 0 :: vi 0 :: vi 0 :: vi 0 :: vi 0 :: vi 0 :: vi 0 :: .slice a0 l.length c0 :: vi 0 :: vi 0 :: vi 0 :: vi 0 :: vi 0 :: vi 0 :: vi 0 :: byt 0 :: byt 0 :: byt 0 :: byt 0 :: vi 0 :: vi 0 :: vi 0 :: vi 0 :: .slice none 0 0 :: vi 0 :: byt 0 :: byt 0 :: byt 0 :: byt 0 :: vi 0 :: vi 0 :: vi 0 :: vi 0 :: .slice none 0 0 :: vi 0 :: vi 0 :: vi 0 :: .slice none 0 0 :: vi 0 :: vi 0 :: vi 0 :: .slice none 0 0 :: vi 0 :: vi 0 :: vi 0 :: vi 0 :: vi 0 :: vi 0 :: vi 0 :: vi 0 :: vi 0 :: [])) rfl) rfl ?_
  skip
  refine WL.callE rfl rfl (small_ctr ⟨0, 0, 0, 0, 0, 0, 0, l, Atr.z, Sg.z, Pt.z⟩ _ (.slice none 0 0) (.slice none 0 0) (.slice none 0 0) (.slice none 0 0) _ ⟨i64_0, i64_0, i64_0, i64_0, i64_0, i64_0, i64_0, hv, Atr.z_at I, Sg.z_ok, Pt.z_ok⟩) rfl (fun hs => ?_) (fun h => ?_)
  rotate_left
  · skip
    refine WL.val (Val.not rfl) rfl ?_
    refine WL.nil ?_
    refine WX.thenC ?_
    refine WC.condT rfl ?_
    refine WC.seq ?_
    refine WC.region ?_
    refine WL.callP [] rfl rfl (awake_ctr _ (hN)) rfl ?_
    rintro _ J _ hJ ⟨rfl, rfl⟩
    refine WL.nApp ?_
    refine WL.val (Val.assignB rfl) rfl ?_
    refine WL.nil ?_
    refine WX.thenC ?_
    refine WC.ret ?_
    refine WX.thenRet ?_
    apply WX.doneP (ks := [])
    case hres => exact RunRes.r1 rfl (ResIs.tmpB rfl)
    case hI => first | exact Mem.le.refl _ | assumption
    exact ⟨rfl, rfl⟩
  have hf := entsFine hv
  have hs1 : ∀ x ∈ l, x.atr.small := hs.1
  have hs2 : l.length ≤ 30 := hs.2.1
  have hl := ents_len hf hs2 hs1
  have hiff : okE l ↔ entsPl l := ⟨fun h => (ents_iff hf).1 h.2, fun h => ⟨by omega, (ents_iff hf).2 h⟩⟩
  refine WL.val (Val.not rfl) rfl ?_
  refine WL.nil ?_
  refine WX.thenC ?_
  refine WC.condF rfl ?_
  refine WC.skip ?_
  refine WX.thenC ?_
  refine WC.seq ?_
  refine WC.region ?_
  refine WL.val (Val.moveS rfl) rfl ?_
  refine WL.callP [] rfl rfl (entries2_ctr l _ _ hN hv (by omega)) rfl ?_
  rintro _ I2 _ hI2 ⟨rfl, v1, r, rfl, ⟨hp, rfl, hB⟩ | ⟨hp, rfl, hB⟩⟩
  · obtain ⟨p1, k1, rfl, _⟩ := SlAt.len hB
    have hN2 := hN.mono hI2
    have hv2 := hv.mono hI2
    refine WL.nApp ?_
    refine WL.val (Val.moveT rfl) rfl ?_
    refine WL.val (Val.extractS rfl rfl) rfl ?_
    refine WL.val (Val.extractI rfl rfl) rfl ?_
    refine WL.val (Val.assignS rfl) rfl ?_
    refine WL.val (Val.assignI rfl) rfl ?_
    refine WL.nil ?_
    refine WX.thenC ?_
    refine WC.seq ?_
    refine WC.seq ?_
    refine WC.region ?_
    refine WL.val (Val.moveS rfl) rfl ?_
    refine WL.callE rfl rfl (plainEntries_ctr l _ _ hN2 hv2) rfl (fun _ => ?_) (fun h => absurd (hiff.1 hp) h)
    refine WL.val (Val.not rfl) rfl ?_
    refine WL.nil ?_
    refine WX.thenC ?_
    refine WC.condF rfl ?_
    refine WC.skip ?_
    refine WX.thenC ?_
    refine WC.seq ?_
    refine WC.region ?_
    refine WL.val (Val.moveS rfl) rfl ?_
    refine WL.callP [] rfl rfl (readEntries_ctr _ (lw Ent.w l) _ hN2 hB (by omega)) rfl ?_
    rintro _ I3 _ hI3 ⟨rfl, m, u, r, rfl, hm, ⟨rfl, _, _, hu⟩ | ⟨rfl, _, hno⟩⟩
    · obtain rfl : l = m := (hu l hp rfl).symm
      have hm0 := hm
      obtain ⟨b0, r0, rfl⟩ := hm.sl
      have hN3 := hN2.mono hI3
      have hv3 := hv2.mono hI3
      refine WL.nApp ?_
      refine WL.val (Val.moveT rfl) rfl ?_
      refine WL.val (Val.extractS rfl rfl) rfl ?_
      refine WL.val (Val.extractI rfl rfl) rfl ?_
      refine WL.val (Val.assignS rfl) rfl ?_
      refine WL.val (Val.assignI rfl) rfl ?_
      refine WL.nil ?_
      refine WX.thenC ?_
      refine WC.seq ?_
      refine WC.drawK 999 I3 [] rfl (by kernel_rfl) rfl rfl ?_
      refine WA.take 0 rfl (by kernel_rfl) rfl (fun w h => (h.sub [] rfl)) (Val.moveI rfl) rfl ?_
      refine WA.take 1 rfl (by kernel_rfl) rfl (fun w h => (h.sub [] rfl)) (Val.eql rfl rfl (beq_iff_eq.2 (by omega))) rfl ?_
      refine WA.take 2 rfl (by kernel_rfl) rfl (fun w h => (h.sub [] rfl)) (Val.moveB rfl) rfl ?_
      refine WA.takeGT 3 rfl (by kernel_rfl) rfl (fun w h => (h.sub [] rfl)) rfl rfl (Val.moveS rfl) rfl ?_
      refine WA.takeGT 5 rfl (by kernel_rfl) rfl (fun w h => (h.sub [] rfl)) rfl rfl (Val.moveS rfl) rfl ?_
      first | refine WA.take 4 rfl (by kernel_rfl) rfl (fun w h => (h.sub [] rfl)) (Val.str rfl (hB.mono hI3)) rfl ?_ | refine WA.takeGT 4 rfl (by kernel_rfl) rfl (fun w h => (h.sub [] rfl)) rfl rfl (Val.str rfl (hB.mono hI3)) rfl ?_
      refine WA.eff1 (i := 6) (by kernel_rfl) rfl rfl ?_
      refine WL.gT rfl rfl ?_
      refine WL.callF rfl rfl (entsB l _ _ hN3 hv3 (hiff.1 hp) (by omega)).frzB rfl fun a5 q5 I5 hI5 hB5 => ?_
      refine WL.nil ?_
      refine WK.anyStep (fun w h => (h.sub [] rfl).less (hI5)) ?_
      refine WA.eff1 (i := 7) (by kernel_rfl) rfl rfl ?_
      refine WL.gT rfl rfl ?_
      refine WL.val (Val.str rfl hB5) rfl ?_
      refine WL.nil ?_
      refine WK.anyStep (fun w h => (h.sub [] rfl).less (hI5)) ?_
      first | refine WA.take 8 rfl (by kernel_rfl) rfl (fun w h => (h.sub [] rfl).less (hI5)) (Val.eqlStrT rfl rfl rfl) rfl ?_ | refine WA.takeGT 8 rfl (by kernel_rfl) rfl (fun w h => (h.sub [] rfl).less (hI5)) rfl rfl (Val.eqlStrT rfl rfl rfl) rfl ?_
      refine WA.take 9 rfl (by kernel_rfl) rfl (fun w h => (h.sub [] rfl).less (hI5)) (Val.pick rfl) rfl ?_
      refine WA.take 10 rfl (by kernel_rfl) rfl (fun w h => (h.sub [] rfl).less (hI5)) (Val.moveB rfl) rfl ?_
      refine WA.takeGT 11 rfl (by kernel_rfl) rfl (fun w h => (h.sub [] rfl).less (hI5)) rfl rfl (Val.moveI rfl) rfl ?_
      refine WA.takeGT 12 rfl (by kernel_rfl) rfl (fun w h => (h.sub [] rfl).less (hI5)) rfl rfl (Val.eql rfl rfl (beq_iff_eq.2 (by omega))) rfl ?_
      refine WA.take 13 rfl (by kernel_rfl) rfl (fun w h => (h.sub [] rfl).less (hI5)) (Val.pick rfl) rfl ?_
      refine WA.take 14 rfl (by kernel_rfl) rfl (fun w h => (h.sub [] rfl).less (hI5)) (Val.moveB rfl) rfl ?_
      refine WA.takeGT 15 rfl (by kernel_rfl) rfl (fun w h => (h.sub [] rfl).less (hI5)) rfl rfl (Val.moveS rfl) rfl ?_
      refine WA.takeGT 16 rfl (by kernel_rfl) rfl (fun w h => (h.sub [] rfl).less (hI5)) rfl rfl (Val.moveS rfl) rfl ?_
      refine WA.eff1 (i := 17) (by kernel_rfl) rfl rfl ?_
      refine WL.gT rfl rfl ?_
      refine WL.callE rfl rfl (eqSame l l _ _ _ (hv3.mono hI5) (hm.mono hI5)) rfl (fun _ => ?_) (fun h => absurd rfl h)
      refine WL.nil ?_
      refine WK.anyStep (fun w h => (h.sub [] rfl).less (hI5)) ?_
      refine WA.take 18 rfl (by kernel_rfl) rfl (fun w h => (h.sub [] rfl).less (hI5)) (Val.pick rfl) rfl ?_
      refine WA.take 19 rfl (by kernel_rfl) rfl (fun w h => (h.sub [] rfl).less (hI5)) (Val.moveB rfl) rfl ?_
      refine WA.eff1 (i := 20) (by kernel_rfl) rfl rfl ?_
      refine WL.gT rfl rfl ?_
      refine WL.callP [] rfl rfl (awake_ctr _ (hN3.mono hI5)) rfl ?_
      rintro _ J _ hJ ⟨rfl, rfl⟩
      refine WL.nApp ?_
      refine WL.nil ?_
      refine WK.anyStep (fun w h => (h.sub [] rfl).less (hI5.trans hJ)) ?_
      refine WA.take 21 rfl (by kernel_rfl) rfl (fun w h => (h.sub [] rfl).less (hI5.trans hJ)) (Val.pick rfl) rfl ?_
      refine WA.take 22 rfl (by kernel_rfl) rfl (fun w h => (h.sub [] rfl).less (hI5.trans hJ)) (Val.assignB rfl) rfl ?_
      refine WA.done (by kernel_rfl) ?_
      refine WX.thenC ?_
      refine WC.ret ?_
      have hK := (hI2.trans hI3).trans (hI5.trans hJ)
      apply WX.doneP (ks := [])
      case hres => exact RunRes.r1 rfl (ResIs.tmpB rfl)
      case hI => first | exact Mem.le.refl _ | assumption
      exact ⟨rfl, rfl⟩
    · exact absurd rfl (hno l hp)
  · obtain ⟨p1, k1, rfl⟩ := Byt.empty hB
    have hN2 := hN.mono hI2
    have hv2 := hv.mono hI2
    refine WL.nApp ?_
    refine WL.val (Val.moveT rfl) rfl ?_
    refine WL.val (Val.extractS rfl rfl) rfl ?_
    refine WL.val (Val.extractI rfl rfl) rfl ?_
    refine WL.val (Val.assignS rfl) rfl ?_
    refine WL.val (Val.assignI rfl) rfl ?_
    refine WL.nil ?_
    refine WX.thenC ?_
    refine WC.seq ?_
    refine WC.seq ?_
    refine WC.region ?_
    refine WL.val (Val.moveS rfl) rfl ?_
    refine WL.callE rfl rfl (plainEntries_ctr l _ _ hN2 hv2) rfl (fun h => absurd (hiff.2 h) hp) (fun _ => ?_)
    refine WL.val (Val.not rfl) rfl ?_
    refine WL.nil ?_
    refine WX.thenC ?_
    refine WC.condT rfl ?_
    refine WC.seq ?_
    refine WC.region ?_
    refine WL.val (Val.moveI rfl) rfl ?_
    refine WL.val (Val.eql rfl rfl (beq_iff_eq.2 (by omega))) rfl ?_
    refine WL.val (Val.moveB rfl) rfl ?_
    refine WL.gT rfl rfl ?_
    refine WL.val (Val.moveS rfl) rfl ?_
    refine WL.gT rfl rfl ?_
    refine WL.val (Val.len rfl) rfl ?_
    refine WL.gT rfl rfl ?_
    refine WL.val (Val.eql rfl rfl (beq_iff_eq.2 (by omega))) rfl ?_
    refine WL.val (Val.pick rfl) rfl ?_
    refine WL.val (Val.moveB rfl) rfl ?_
    refine WL.gT rfl rfl ?_
    refine WL.callP [] rfl rfl (awake_ctr _ (hN2)) rfl ?_
    rintro _ J _ hJ ⟨rfl, rfl⟩
    refine WL.nApp ?_
    refine WL.val (Val.pick rfl) rfl ?_
    refine WL.val (Val.assignB rfl) rfl ?_
    refine WL.nil ?_
    refine WX.thenC ?_
    refine WC.ret ?_
    refine WX.thenRet ?_
    have hK := hI2.trans hJ
    apply WX.doneP (ks := [])
    case hres => exact RunRes.r1 rfl (ResIs.tmpB rfl)
    case hI => first | exact Mem.le.refl _ | assumption
    exact ⟨rfl, rfl⟩
theorem codeListsRead_ctr (v : Value) (bs : Bs) (I : Mem) (hN : NeedAt I) (hb : Byt I v bs) : Ctr Tryd.prog 6 [v] I [] Yes := by
  have hb0 := hb
  obtain ⟨a1, c1, rfl, _⟩ := SlAt.len hb
  refine Ctr.intro Tryd.func6 rfl rfl rfl fun E F => ?_
  by_cases hbig : (1000 : Int) < bs.length
  · skip
    refine WC.seq ?_
    refine WC.region ?_
    refine WL.val (Val.assignB rfl) rfl ?_
    refine WL.nil ?_
    refine WX.thenC ?_
    refine WC.seq ?_
    refine WC.seq ?_
    refine WC.region ?_
    refine WL.val (Val.moveS rfl) rfl ?_
    refine WL.val (Val.len rfl) rfl ?_
    refine WL.val (Val.gtr rfl rfl (decide_eq_true (by omega))) rfl ?_
    refine WL.nil ?_
    refine WX.thenC ?_
    refine WC.condT rfl ?_
    refine WC.seq ?_
    refine WC.region ?_
    refine WL.callP [] rfl rfl (awake_ctr _ (hN)) rfl ?_
    rintro _ J _ hJ ⟨rfl, rfl⟩
    refine WL.nApp ?_
    refine WL.val (Val.assignB rfl) rfl ?_
    refine WL.nil ?_
    refine WX.thenC ?_
    refine WC.ret ?_
    refine WX.thenRet ?_
    apply WX.doneP (ks := [])
    case hres => exact RunRes.r1 rfl (ResIs.tmpB rfl)
    case hI => first | exact Mem.le.refl _ | assumption
    exact ⟨rfl, rfl⟩
  refine WC.seq ?_
  refine WC.region ?_
  refine WL.val (Val.assignB rfl) rfl ?_
  refine WL.nil ?_
  refine WX.thenC ?_
  refine WC.seq ?_
  refine WC.seq ?_
  refine WC.region ?_
  refine WL.val (Val.moveS rfl) rfl ?_
  refine WL.val (Val.len rfl) rfl ?_
  refine WL.val (Val.gtr rfl rfl (decide_eq_false (by omega))) rfl ?_
  refine WL.nil ?_
  refine WX.thenC ?_
  refine WC.condF rfl ?_
  refine WC.skip ?_
  refine WX.thenC ?_
  refine WC.seq ?_
  refine WC.region ?_
  refine WL.val (Val.moveS rfl) rfl ?_
  refine WL.callP [] rfl rfl (readCommands_ctr _ bs _ hN hb (by omega)) rfl ?_
  rintro _ I1 _ hI1 ⟨rfl, l, u, r, rfl, hv, ⟨rfl, hp, hw, hu⟩ | ⟨rfl, rfl, hno⟩⟩
  · have hv0 := hv
    obtain ⟨b0, r0, rfl⟩ := hv.sl
    have hN1 := hN.mono hI1
    refine WL.nApp ?_
    refine WL.val (Val.moveT rfl) rfl ?_
    refine WL.val (Val.extractS rfl rfl) rfl ?_
    refine WL.val (Val.extractI rfl rfl) rfl ?_
    refine WL.val (Val.assignS rfl) rfl ?_
    refine WL.val (Val.assignI rfl) rfl ?_
    refine WL.nil ?_
    refine WX.thenC ?_
    refine WC.seq ?_
    refine WC.seq ?_
    refine WC.region ?_
    refine WL.val (Val.moveI rfl) rfl ?_
    refine WL.val (Val.neq rfl rfl (bne_eq_false_iff_eq.2 (by omega))) rfl ?_
    refine WL.nil ?_
    refine WX.thenC ?_
    refine WC.condF rfl ?_
    refine WC.skip ?_
    refine WX.thenC ?_
    refine WC.seq ?_
    refine WC.region ?_
    refine WL.val (Val.moveS rfl) rfl ?_
    refine WL.callP [] rfl rfl (commands_ctr l _ _ hN1 hv (by have := hp.1; omega) (by rw [hw]; omega)) rfl ?_
    rintro _ I2 _ hI2 ⟨rfl, v1, r, rfl, ⟨_, rfl, hB⟩ | ⟨hq, rfl, hB⟩⟩
    · rw [hw] at hB
      obtain ⟨p1, k1, rfl, _⟩ := SlAt.len hB
      refine WL.nApp ?_
      refine WL.val (Val.moveT rfl) rfl ?_
      refine WL.val (Val.extractS rfl rfl) rfl ?_
      refine WL.val (Val.extractI rfl rfl) rfl ?_
      refine WL.val (Val.assignS rfl) rfl ?_
      refine WL.val (Val.assignI rfl) rfl ?_
      refine WL.nil ?_
      refine WX.thenC ?_
      refine WC.seq ?_
      refine WC.region ?_
      refine WL.val (Val.moveI rfl) rfl ?_
      refine WL.val (Val.eql rfl rfl (beq_iff_eq.2 (by omega))) rfl ?_
      refine WL.val (Val.moveB rfl) rfl ?_
      refine WL.gT rfl rfl ?_
      refine WL.val (Val.moveS rfl) rfl ?_
      refine WL.gT rfl rfl ?_
      refine WL.val (Val.str rfl ((hb.mono hI1).mono hI2)) rfl ?_
      refine WL.gT rfl rfl ?_
      refine WL.val (Val.moveS rfl) rfl ?_
      refine WL.gT rfl rfl ?_
      refine WL.val (Val.str rfl hB) rfl ?_
      refine WL.gT rfl rfl ?_
      refine WL.val (Val.eqlStrT rfl rfl rfl) rfl ?_
      refine WL.val (Val.pick rfl) rfl ?_
      refine WL.val (Val.moveB rfl) rfl ?_
      refine WL.gT rfl rfl ?_
      refine WL.callP [] rfl rfl (awake_ctr _ (hN1.mono hI2)) rfl ?_
      rintro _ J _ hJ ⟨rfl, rfl⟩
      refine WL.nApp ?_
      refine WL.val (Val.pick rfl) rfl ?_
      refine WL.val (Val.assignB rfl) rfl ?_
      refine WL.nil ?_
      refine WX.thenC ?_
      refine WC.ret ?_
      have hK := (hI1.trans hI2).trans hJ
      apply WX.doneP (ks := [])
      case hres => exact RunRes.r1 rfl (ResIs.tmpB rfl)
      case hI => first | exact Mem.le.refl _ | assumption
      exact ⟨rfl, rfl⟩
    · exact absurd hp.2 hq
  · obtain ⟨b0, r0, rfl⟩ := hv.sl
    refine WL.nApp ?_
    refine WL.val (Val.moveT rfl) rfl ?_
    refine WL.val (Val.extractS rfl rfl) rfl ?_
    refine WL.val (Val.extractI rfl rfl) rfl ?_
    refine WL.val (Val.assignS rfl) rfl ?_
    refine WL.val (Val.assignI rfl) rfl ?_
    refine WL.nil ?_
    refine WX.thenC ?_
    refine WC.seq ?_
    refine WC.seq ?_
    refine WC.region ?_
    refine WL.val (Val.moveI rfl) rfl ?_
    refine WL.val (Val.neq rfl rfl (bne_iff_ne.2 (by omega))) rfl ?_
    refine WL.nil ?_
    refine WX.thenC ?_
    refine WC.condT rfl ?_
    refine WC.seq ?_
    refine WC.region ?_
    refine WL.val (Val.moveI rfl) rfl ?_
    refine WL.val (Val.eql rfl rfl (beq_iff_eq.2 (by omega))) rfl ?_
    refine WL.val (Val.moveB rfl) rfl ?_
    refine WL.gT rfl rfl ?_
    refine WL.val (Val.moveS rfl) rfl ?_
    refine WL.gT rfl rfl ?_
    refine WL.val (Val.len rfl) rfl ?_
    refine WL.gT rfl rfl ?_
    refine WL.val (Val.eql rfl rfl rfl) rfl ?_
    refine WL.val (Val.pick rfl) rfl ?_
    refine WL.val (Val.moveB rfl) rfl ?_
    refine WL.gT rfl rfl ?_
    refine WL.callP [] rfl rfl (awake_ctr _ (hN.mono hI1)) rfl ?_
    rintro _ J _ hJ ⟨rfl, rfl⟩
    refine WL.nApp ?_
    refine WL.val (Val.pick rfl) rfl ?_
    refine WL.val (Val.assignB rfl) rfl ?_
    refine WL.nil ?_
    refine WX.thenC ?_
    refine WC.ret ?_
    refine WX.thenRet ?_
    have hK := hI1.trans hJ
    apply WX.doneP (ks := [])
    case hres => exact RunRes.r1 rfl (ResIs.tmpB rfl)
    case hI => first | exact Mem.le.refl _ | assumption
    exact ⟨rfl, rfl⟩
end Go.Proofs.YtfdeckdongonnaaDoor
