/-
  Code, the walks: what the law calls plain (2), and what a kind names.
-/
import Derived.Test.YtfdeckdongonnaaDoorC24
import Derived.Test.YtfdeckdongonnaaDoorSepH
namespace Go.Proofs.YtfdeckdongonnaaDoor
open Go.Sl Go.Cd
set_option maxRecDepth 100000
set_option maxHeartbeats 8000000
set_option linter.unusedVariables false
attribute [local irreducible] WC WL WX WK WA WAK Val Ctr RunRes ResIs Rd At sl box pt Exit.then Exit.inBlock bodyPost Code.wp wpList
theorem plainPath_ctr (l : List Sg) (v : Value) (I : Mem) (hN : NeedAt I) (hv : LsAt Sg.rep I l v) :
    Ctr Tryd.prog 31 [v] I [] (Still I (EqP (pathPl l))) := by
  have hlb : l.length ≤ 9223372036854775807 := by obtain ⟨_, h, _⟩ := hv; exact h.le
  obtain ⟨a1, c1, rfl⟩ := hv.sl
  refine Ctr.intro Tryd.func31 rfl rfl rfl fun E F => ?_
  refine WC.seq ?_
  refine WC.region ?_
  refine WL.val (Val.assignB rfl) rfl ?_
  refine WL.nil ?_
  refine WX.thenC ?_
  refine WC.seq ?_
  refine WC.seq ?_
  refine WC.region ?_
  refine WL.val (Val.moveS rfl) rfl ?_
  refine WL.val (Val.len rfl) rfl ?_
  refine WL.val (Val.moveI rfl) rfl ?_
  refine WL.nil ?_
  refine WX.thenC ?_
  refine WC.block ?_
  refine WC.loop (fun n ρ' I' L' => ∃ k : Nat, n = l.length - k ∧ k ≤ l.length ∧ I' = I ∧ ρ' 0 = .slice a1 l.length c1 ∧ ρ' 5 = .slice a1 l.length c1 ∧ ρ' 6 = vi l.length ∧ ρ' 7 = vi k ∧ L' = [F] ∧ ∀ x ∈ l.take k, x.pl)
    l.length ⟨0, rfl, by omega, rfl, rfl, rfl, rfl, rfl, rfl, fun x hx => by simp at hx⟩ ?_
  rintro n ρ' I0 L' ⟨k, rfl, hk, rfl, h0, h5, h6, h7, rfl, hall⟩
  rw [← upd_self h7, ← upd_self h6, ← upd_self h5, ← upd_self h0]
  clear h7 h6 h5 h0
  by_cases hkn : k < l.length
  · obtain ⟨b, off, cap', cs, he, ⟨rfl, hi⟩, hA⟩ := hv.get k hkn
    cases he
    have hsn := all_snoc (P := fun x => x.pl) hall hkn
    generalize hx : l[k] = x at *
    refine WC.seq ?_
    refine WC.region ?_
    refine WL.val (Val.lss rfl rfl (decide_eq_true (by omega))) rfl ?_
    refine WL.nil ?_
    refine WX.thenC ?_
    refine WC.seq ?_
    refine WC.condT rfl ?_
    refine WC.skip ?_
    refine WX.thenC ?_
    refine WC.seq ?_
    refine WC.block ?_
    refine WC.seq ?_
    refine WC.region ?_
    refine WL.val (Val.indexAddr rfl rfl (by omega) (by omega)) rfl ?_
    refine WL.val (Val.loadI rfl (by assumption) rfl) rfl ?_
    (refine WL.alloc rfl ?_; intro _)
    refine WL.nApp ?_
    refine WL.stA 1 rfl rfl rfl rfl ?_
    refine WL.nil ?_
    refine WX.thenC ?_
    refine WC.seq ?_
    refine WC.region ?_
    refine WL.val (Val.ldO 1 rfl rfl rfl) rfl ?_
    refine WL.callE rfl rfl (plainSeg_ctr x _ hN) rfl (fun h => ?_) (fun h => ?_)
    · skip
      refine WL.val (Val.not rfl) rfl ?_
      refine WL.nil ?_
      refine WX.thenC ?_
      refine WC.condF rfl ?_
      refine WC.skip ?_
      refine WX.inNormal ?_
      refine WX.thenC ?_
      refine WC.region ?_
      refine WL.val (Val.add rfl rfl (wrap_i64 (by omega) (by omega))) rfl ?_
      refine WL.val (Val.moveI rfl) rfl ?_
      refine WL.nil ?_
      refine WX.conv (fun w h => h.sub [0] rfl) ?_
      exact WX.thenK (WK.round (l.length - (k + 1)) (by omega) ⟨k + 1, rfl, by omega, rfl, rfl, rfl, rfl, rfl, rfl, hsn h⟩)
    · skip
      refine WL.val (Val.not rfl) rfl ?_
      refine WL.nil ?_
      refine WX.thenC ?_
      refine WC.condT rfl ?_
      refine WC.seq ?_
      refine WC.region ?_
      refine WL.val (Val.assignB rfl) rfl ?_
      refine WL.nil ?_
      refine WX.thenC ?_
      refine WC.ret ?_
      refine WX.inRet ?_
      refine WX.thenRet ?_
      refine WX.thenRet ?_
      refine WX.inRet ?_
      refine WX.thenRet ?_
      apply WX.doneP (ks := [])
      case hres => exact RunRes.r1 rfl (ResIs.tmpB rfl)
      case hI => first | exact Mem.le.refl _ | assumption
      refine ⟨rfl, rfl, EqP.f fun e => h (e.2 x ?_)⟩
      rw [← hx]
      exact List.getElem_mem _
  · have hall' : ∀ x ∈ l, x.pl := by
      have : k = l.length := by omega
      subst this
      rwa [List.take_length] at hall
    refine WC.seq ?_
    refine WC.region ?_
    refine WL.val (Val.lss rfl rfl (decide_eq_false (by omega))) rfl ?_
    refine WL.nil ?_
    refine WX.thenC ?_
    refine WC.seq ?_
    refine WC.condF rfl ?_
    refine WC.exit ?_
    refine WX.thenExit ?_
    refine WX.thenExit ?_
    refine WX.inHit ?_
    refine WX.thenC ?_
    refine WC.seq ?_
    refine WC.region ?_
    refine WL.val (Val.moveS rfl) rfl ?_
    refine WL.val (Val.len rfl) rfl ?_
    refine WL.leI rfl rfl rfl (fun h => ?_) (fun h => ?_)
    refine WL.val (Val.assignB rfl) rfl ?_
    refine WL.nil ?_
    refine WX.thenC ?_
    refine WC.ret ?_
    · skip
      apply WX.doneP (ks := [])
      case hres => exact RunRes.r1 rfl (ResIs.tmpB rfl)
      case hI => first | exact Mem.le.refl _ | assumption
      exact ⟨rfl, rfl, EqP.t ⟨by omega, hall'⟩⟩
    · skip
      refine WL.val (Val.assignB rfl) rfl ?_
      refine WL.nil ?_
      refine WX.thenC ?_
      refine WC.ret ?_
      apply WX.doneP (ks := [])
      case hres => exact RunRes.r1 rfl (ResIs.tmpB rfl)
      case hI => first | exact Mem.le.refl _ | assumption
      exact ⟨rfl, rfl, EqP.f fun e => by have := e.1; omega⟩
theorem plainAttr_ctr (a : Atr) (t u d q : Value) (I : Mem) (hN : NeedAt I) (ha : a.at_ I t u d q) :
    Ctr Tryd.prog 29 [.agg (a.cs t u d q).toArray] I [] (Still I (EqP a.pl)) := by
  obtain ⟨a1, c1, a2, c2, a3, c3, a4, c4, rfl, rfl, rfl, rfl⟩ := ha.sl
  refine Ctr.intro Tryd.func29 rfl rfl rfl fun E F => ?_
  refine WC.seq ?_
  refine WC.region ?_
  (refine WL.boxA rfl rfl ?_; intro _)
  refine WL.nApp ?_
  refine WL.val (Val.assignB rfl) rfl ?_
  refine WL.nil ?_
  refine WX.thenC ?_
  refine WC.seq ?_
  refine WC.region ?_
  refine WL.val (Val.fldAddr rfl) rfl ?_
  refine WL.val (Val.ldO 1 rfl rfl rfl) rfl ?_
  refine WL.callE rfl rfl (plainStyle_ctr a.sty _ _ _ _ ha.sty) rfl (fun h1 => ?_) (fun h1 => ?_)
  · skip
    refine WL.val (Val.moveB rfl) rfl ?_
    refine WL.gT rfl rfl ?_
    refine WL.val (Val.fldAddr rfl) rfl ?_
    refine WL.gT rfl rfl ?_
    refine WL.val (Val.loadS rfl (Rd.own1 1 rfl rfl)) rfl ?_
    refine WL.gT rfl rfl ?_
    refine WL.callE rfl rfl (plainPath_ctr a.path _ _ hN ha.path) rfl (fun h2 => ?_) (fun h2 => ?_)
    · skip
      refine WL.val (Val.pick rfl) rfl ?_
      refine WL.val (Val.assignB rfl) rfl ?_
      refine WL.nil ?_
      refine WX.thenC ?_
      refine WC.ret ?_
      apply WX.doneP (ks := [])
      case hres => exact RunRes.r1 rfl (ResIs.tmpB rfl)
      case hI => first | exact Mem.le.refl _ | assumption
      exact ⟨rfl, rfl, EqP.t ⟨h1, h2⟩⟩
    · skip
      refine WL.val (Val.pick rfl) rfl ?_
      refine WL.val (Val.assignB rfl) rfl ?_
      refine WL.nil ?_
      refine WX.thenC ?_
      refine WC.ret ?_
      apply WX.doneP (ks := [])
      case hres => exact RunRes.r1 rfl (ResIs.tmpB rfl)
      case hI => first | exact Mem.le.refl _ | assumption
      exact ⟨rfl, rfl, EqP.f fun e => h2 e.2⟩
  · skip
    refine WL.val (Val.moveB rfl) rfl ?_
    refine WL.gF rfl rfl rfl rfl ?_
    refine WL.gF rfl rfl rfl rfl ?_
    refine WL.gF rfl rfl rfl rfl ?_
    refine WL.val (Val.pick rfl) rfl ?_
    refine WL.val (Val.assignB rfl) rfl ?_
    refine WL.nil ?_
    refine WX.thenC ?_
    refine WC.ret ?_
    apply WX.doneP (ks := [])
    case hres => exact RunRes.r1 rfl (ResIs.tmpB rfl)
    case hI => first | exact Mem.le.refl _ | assumption
    exact ⟨rfl, rfl, EqP.f fun e => h1 e.1⟩
theorem plainEntries_ctr (l : List Ent) (v : Value) (I : Mem) (hN : NeedAt I) (hv : LsAt Ent.rep I l v) :
    Ctr Tryd.prog 20 [v] I [] (Still I (EqP (entsPl l))) := by
  have hlb : l.length ≤ 9223372036854775807 := by obtain ⟨_, h, _⟩ := hv; exact h.le
  obtain ⟨a1, c1, rfl⟩ := hv.sl
  refine Ctr.intro Tryd.func20 rfl rfl rfl fun E F => ?_
  refine WC.seq ?_
  refine WC.region ?_
  refine WL.val (Val.assignB rfl) rfl ?_
  refine WL.nil ?_
  refine WX.thenC ?_
  refine WC.seq ?_
  refine WC.seq ?_
  refine WC.region ?_
  refine WL.val (Val.moveS rfl) rfl ?_
  refine WL.val (Val.len rfl) rfl ?_
  refine WL.val (Val.moveI rfl) rfl ?_
  refine WL.nil ?_
  refine WX.thenC ?_
  refine WC.block ?_
  refine WC.loop (fun n ρ' I' L' => ∃ k : Nat, n = l.length - k ∧ k ≤ l.length ∧ I' = I ∧ ρ' 5 = .slice a1 l.length c1 ∧ ρ' 6 = vi l.length ∧ ρ' 7 = vi k ∧ L' = [F] ∧ ∀ x ∈ l.take k, x.atr.pl)
    l.length ⟨0, rfl, by omega, rfl, rfl, rfl, rfl, rfl, fun x hx => by simp at hx⟩ ?_
  rintro n ρ' I0 L' ⟨k, rfl, hk, rfl, h5, h6, h7, rfl, hall⟩
  rw [← upd_self h7, ← upd_self h6, ← upd_self h5]
  clear h7 h6 h5
  by_cases hkn : k < l.length
  · obtain ⟨b, off, cap', cs, he, ⟨t1, t2, t3, t4, rfl, hi⟩, hA⟩ := hv.get k hkn
    cases he
    have hsn := all_snoc (P := fun x => x.atr.pl) hall hkn
    generalize hx : l[k] = x at *
    obtain ⟨b1, r1, b2, r2, b3, r3, b4, r4, rfl, rfl, rfl, rfl⟩ := hi.sl
    refine WC.seq ?_
    refine WC.region ?_
    refine WL.val (Val.lss rfl rfl (decide_eq_true (by omega))) rfl ?_
    refine WL.nil ?_
    refine WX.thenC ?_
    refine WC.seq ?_
    refine WC.condT rfl ?_
    refine WC.skip ?_
    refine WX.thenC ?_
    refine WC.seq ?_
    refine WC.block ?_
    refine WC.seq ?_
    refine WC.region ?_
    refine WL.val (Val.indexAddr rfl rfl (by omega) (by omega)) rfl ?_
    refine WL.val (Val.loadI rfl (by assumption) rfl) rfl ?_
    (refine WL.alloc rfl ?_; intro _)
    refine WL.nApp ?_
    refine WL.stA 1 rfl rfl rfl rfl ?_
    refine WL.nil ?_
    refine WX.thenC ?_
    refine WC.seq ?_
    refine WC.region ?_
    refine WL.val (Val.fldAddr rfl) rfl ?_
    refine WL.val (Val.ldO 1 rfl rfl rfl) rfl ?_
    refine WL.callE rfl rfl (plainAttr_ctr x.atr _ _ _ _ _ hN hi.atr) rfl (fun h => ?_) (fun h => ?_)
    · skip
      refine WL.val (Val.not rfl) rfl ?_
      refine WL.nil ?_
      refine WX.thenC ?_
      refine WC.condF rfl ?_
      refine WC.skip ?_
      refine WX.inNormal ?_
      refine WX.thenC ?_
      refine WC.region ?_
      refine WL.val (Val.add rfl rfl (wrap_i64 (by omega) (by omega))) rfl ?_
      refine WL.val (Val.moveI rfl) rfl ?_
      refine WL.nil ?_
      refine WX.conv (fun w h => h.sub [0] rfl) ?_
      exact WX.thenK (WK.round (l.length - (k + 1)) (by omega) ⟨k + 1, rfl, by omega, rfl, rfl, rfl, rfl, rfl, hsn h⟩)
    · skip
      refine WL.val (Val.not rfl) rfl ?_
      refine WL.nil ?_
      refine WX.thenC ?_
      refine WC.condT rfl ?_
      refine WC.seq ?_
      refine WC.region ?_
      refine WL.val (Val.assignB rfl) rfl ?_
      refine WL.nil ?_
      refine WX.thenC ?_
      refine WC.ret ?_
      refine WX.inRet ?_
      refine WX.thenRet ?_
      refine WX.thenRet ?_
      refine WX.inRet ?_
      refine WX.thenRet ?_
      apply WX.doneP (ks := [])
      case hres => exact RunRes.r1 rfl (ResIs.tmpB rfl)
      case hI => first | exact Mem.le.refl _ | assumption
      refine ⟨rfl, rfl, EqP.f fun e => h (e x ?_)⟩
      rw [← hx]
      exact List.getElem_mem _
  · have hall' : ∀ x ∈ l, x.atr.pl := by
      have : k = l.length := by omega
      subst this
      rwa [List.take_length] at hall
    refine WC.seq ?_
    refine WC.region ?_
    refine WL.val (Val.lss rfl rfl (decide_eq_false (by omega))) rfl ?_
    refine WL.nil ?_
    refine WX.thenC ?_
    refine WC.seq ?_
    refine WC.condF rfl ?_
    refine WC.exit ?_
    refine WX.thenExit ?_
    refine WX.thenExit ?_
    refine WX.inHit ?_
    refine WX.thenC ?_
    refine WC.seq ?_
    refine WC.region ?_
    refine WL.val (Val.assignB rfl) rfl ?_
    refine WL.nil ?_
    refine WX.thenC ?_
    refine WC.ret ?_
    apply WX.doneP (ks := [])
    case hres => exact RunRes.r1 rfl (ResIs.tmpB rfl)
    case hI => first | exact Mem.le.refl _ | assumption
    exact ⟨rfl, rfl, EqP.t hall'⟩
theorem named_ctr (c : Cm) (e t u d q : Value) (I : Mem) (hc : c.at_ I e t u d q) :
    Ctr Tryd.prog 28 [.agg (c.cs e t u d q).toArray] I [] (Still I fun v => ∃ e' t' u' d' q', v = .agg (c.named.cs e' t' u' d' q').toArray ∧ c.named.at_ I e' t' u' d' q') := by
  obtain ⟨a0, c0, a1, c1, a2, c2, a3, c3, a4, c4, rfl, rfl, rfl, rfl, rfl⟩ := hc.sl
  obtain ⟨kind, id, parent, index, count, i, k, ents, atr, seg, point⟩ := c
  obtain ⟨f0, f1, f2, f3, f4, f5, f6, f7, f8, f9, f10⟩ := hc
  simp only at f0 f1 f2 f3 f4 f5 f6 f7 f8 f9 f10
  refine Ctr.intro Tryd.func28 rfl rfl rfl fun E F => ?_
  by_cases k1 : kind = 1
  · subst k1
    refine WC.seq ?_
    refine WC.region ?_
    (refine WL.boxA rfl rfl ?_; intro _)
    refine WL.nApp ?_
    (refine WL.alloc rfl ?_; intro _)
    refine WL.nApp ?_
    refine WL.nil ?_
    refine WX.thenC ?_
    refine WC.seq ?_
    refine WC.region ?_
    refine WL.val (Val.fldAddr rfl) rfl ?_
    refine WL.val (Val.loadS rfl (Rd.own1 1 rfl rfl)) rfl ?_
    refine WL.val (Val.fldAddr rfl) rfl ?_
    refine WL.val (Val.loadS rfl (Rd.own1 1 rfl rfl)) rfl ?_
    refine WL.val (Val.build (cs := (vi 1 :: vi id :: vi 0 :: vi 0 :: vi 0 :: vi 0 :: vi 0 :: .slice none 0 0 :: vi 0 :: vi 0 :: vi 0 :: vi 0 :: vi 0 :: vi 0 :: vi 0 :: byt 0 :: byt 0 :: byt 0 :: byt 0 :: vi 0 :: vi 0 :: vi 0 :: vi 0 :: .slice none 0 0 :: vi 0 :: byt 0 :: byt 0 :: byt 0 :: byt 0 :: vi 0 :: vi 0 :: vi 0 :: vi 0 :: .slice none 0 0 :: vi 0 :: vi 0 :: vi 0 :: .slice none 0 0 :: vi 0 :: vi 0 :: vi 0 :: .slice none 0 0 :: vi 0 :: vi 0 :: vi 0 :: vi 0 :: vi 0 :: vi 0 :: vi 0 :: vi 0 :: vi 0 :: [])) rfl) rfl ?_
    (refine WL.alloc rfl ?_; intro _)
    refine WL.nApp ?_
    refine WL.stA 3 rfl rfl rfl rfl ?_
    refine WL.nil ?_
    refine WX.thenC ?_
    refine WC.seq ?_
    refine WC.seq ?_
    refine WC.region ?_
    refine WL.val (Val.fldAddr rfl) rfl ?_
    refine WL.val (Val.loadS rfl (Rd.own1 1 rfl rfl)) rfl ?_
    refine WL.nil ?_
    refine WX.thenC ?_
    refine WC.block ?_
    refine WC.seq ?_
    refine WC.region ?_
    refine WL.val (Val.eql rfl rfl rfl) rfl ?_
    refine WL.val (Val.assignB rfl) rfl ?_
    refine WL.nil ?_
    refine WX.thenC ?_
    refine WC.condT rfl ?_
    refine WC.drawK 999 I [1] rfl (by kernel_rfl) rfl rfl ?_
    refine WA.take 0 rfl (by kernel_rfl) rfl (fun w h => (h.sub [1] rfl)) (Val.fldAddr rfl) rfl ?_
    refine WA.take 1 rfl (by kernel_rfl) rfl (fun w h => (h.sub [1] rfl)) (Val.loadS rfl (Rd.own1 0 rfl rfl)) rfl ?_
    refine WA.take 2 rfl (by kernel_rfl) rfl (fun w h => (h.sub [1] rfl)) (Val.fldAddr rfl) rfl ?_
    refine WA.take 3 rfl (by kernel_rfl) rfl (fun w h => (h.sub [1] rfl)) (Val.loadS rfl (Rd.own1 0 rfl rfl)) rfl ?_
    refine WA.take 4 rfl (by kernel_rfl) rfl (fun w h => (h.sub [1] rfl)) (Val.fldAddr rfl) rfl ?_
    refine WA.take 5 rfl (by kernel_rfl) rfl (fun w h => (h.sub [1] rfl)) (Val.loadS rfl (Rd.own1 0 rfl rfl)) rfl ?_
    refine WA.take 6 rfl (by kernel_rfl) rfl (fun w h => (h.sub [1] rfl)) (Val.fldAddr rfl) rfl ?_
    refine WA.eff1 (i := 7) (by kernel_rfl) rfl rfl ?_
    refine WL.stI 3 rfl rfl rfl rfl ?_
    refine WL.nil ?_
    refine WK.anyStep (fun w h => (h.sub [1] rfl)) ?_
    refine WA.take 8 rfl (by kernel_rfl) rfl (fun w h => (h.sub [1] rfl)) (Val.fldAddr rfl) rfl ?_
    refine WA.eff1 (i := 9) (by kernel_rfl) rfl rfl ?_
    refine WL.stI 3 rfl rfl rfl rfl ?_
    refine WL.nil ?_
    refine WK.anyStep (fun w h => (h.sub [1] rfl)) ?_
    refine WA.take 10 rfl (by kernel_rfl) rfl (fun w h => (h.sub [1] rfl)) (Val.fldAddr rfl) rfl ?_
    refine WA.eff1 (i := 11) (by kernel_rfl) rfl rfl ?_
    refine WL.stI 3 rfl rfl rfl rfl ?_
    refine WL.nil ?_
    refine WK.anyStep (fun w h => (h.sub [1] rfl)) ?_
    refine WA.take 12 rfl (by kernel_rfl) rfl (fun w h => (h.sub [1] rfl)) (Val.fldAddr rfl) rfl ?_
    refine WA.eff1 (i := 13) (by kernel_rfl) rfl rfl ?_
    refine WL.stS 3 rfl rfl rfl rfl ?_
    refine WL.nil ?_
    refine WK.anyStep (fun w h => (h.sub [1] rfl)) ?_
    refine WA.done (by kernel_rfl) ?_
    refine WX.inNormal ?_
    refine WX.thenC ?_
    refine WC.seq ?_
    refine WC.region ?_
    refine WL.val (Val.ldO 3 rfl rfl rfl) rfl ?_
    refine WL.stA 2 rfl rfl rfl rfl ?_
    refine WL.nil ?_
    refine WX.thenC ?_
    refine WC.ret ?_
    apply WX.doneP (ks := [])
    case hres => exact RunRes.r1 rfl (ResIs.cellL 2 rfl rfl rfl)
    case hI => first | exact Mem.le.refl _ | assumption
    exact ⟨rfl, rfl, _, _, _, _, _, rfl, ⟨f0, i64_0, f2, f3, i64_0, i64_0, i64_0, f7, (Atr.z_at I), Sg.z_ok, Pt.z_ok⟩⟩
  by_cases k2 : kind = 2
  · subst k2
    refine WC.seq ?_
    refine WC.region ?_
    (refine WL.boxA rfl rfl ?_; intro _)
    refine WL.nApp ?_
    (refine WL.alloc rfl ?_; intro _)
    refine WL.nApp ?_
    refine WL.nil ?_
    refine WX.thenC ?_
    refine WC.seq ?_
    refine WC.region ?_
    refine WL.val (Val.fldAddr rfl) rfl ?_
    refine WL.val (Val.loadS rfl (Rd.own1 1 rfl rfl)) rfl ?_
    refine WL.val (Val.fldAddr rfl) rfl ?_
    refine WL.val (Val.loadS rfl (Rd.own1 1 rfl rfl)) rfl ?_
    refine WL.val (Val.build (cs := (vi 2 :: vi id :: vi 0 :: vi 0 :: vi 0 :: vi 0 :: vi 0 :: .slice none 0 0 :: vi 0 :: vi 0 :: vi 0 :: vi 0 :: vi 0 :: vi 0 :: vi 0 :: byt 0 :: byt 0 :: byt 0 :: byt 0 :: vi 0 :: vi 0 :: vi 0 :: vi 0 :: .slice none 0 0 :: vi 0 :: byt 0 :: byt 0 :: byt 0 :: byt 0 :: vi 0 :: vi 0 :: vi 0 :: vi 0 :: .slice none 0 0 :: vi 0 :: vi 0 :: vi 0 :: .slice none 0 0 :: vi 0 :: vi 0 :: vi 0 :: .slice none 0 0 :: vi 0 :: vi 0 :: vi 0 :: vi 0 :: vi 0 :: vi 0 :: vi 0 :: vi 0 :: vi 0 :: [])) rfl) rfl ?_
    (refine WL.alloc rfl ?_; intro _)
    refine WL.nApp ?_
    refine WL.stA 3 rfl rfl rfl rfl ?_
    refine WL.nil ?_
    refine WX.thenC ?_
    refine WC.seq ?_
    refine WC.seq ?_
    refine WC.region ?_
    refine WL.val (Val.fldAddr rfl) rfl ?_
    refine WL.val (Val.loadS rfl (Rd.own1 1 rfl rfl)) rfl ?_
    refine WL.nil ?_
    refine WX.thenC ?_
    refine WC.block ?_
    refine WC.seq ?_
    refine WC.region ?_
    refine WL.val (Val.eql rfl rfl (beq_eq_false_iff_ne.2 (by omega))) rfl ?_
    refine WL.val (Val.assignB rfl) rfl ?_
    refine WL.nil ?_
    refine WX.thenC ?_
    refine WC.condF rfl ?_
    refine WC.seq ?_
    refine WC.region ?_
    refine WL.val (Val.eql rfl rfl rfl) rfl ?_
    refine WL.val (Val.assignB rfl) rfl ?_
    refine WL.nil ?_
    refine WX.thenC ?_
    refine WC.condF rfl ?_
    refine WC.seq ?_
    refine WC.region ?_
    refine WL.val (Val.eql rfl rfl rfl) rfl ?_
    refine WL.val (Val.assignB rfl) rfl ?_
    refine WL.nil ?_
    refine WX.thenC ?_
    refine WC.condF rfl ?_
    refine WC.seq ?_
    refine WC.region ?_
    refine WL.val (Val.eql rfl rfl rfl) rfl ?_
    refine WL.val (Val.assignB rfl) rfl ?_
    refine WL.nil ?_
    refine WX.thenC ?_
    refine WC.condF rfl ?_
    refine WC.seq ?_
    refine WC.region ?_
    refine WL.val (Val.eql rfl rfl rfl) rfl ?_
    refine WL.val (Val.assignB rfl) rfl ?_
    refine WL.nil ?_
    refine WX.thenC ?_
    refine WC.condF rfl ?_
    refine WC.seq ?_
    refine WC.region ?_
    refine WL.val (Val.eql rfl rfl rfl) rfl ?_
    refine WL.val (Val.assignB rfl) rfl ?_
    refine WL.nil ?_
    refine WX.thenC ?_
    refine WC.condF rfl ?_
    refine WC.seq ?_
    refine WC.region ?_
    refine WL.val (Val.eql rfl rfl rfl) rfl ?_
    refine WL.val (Val.assignB rfl) rfl ?_
    refine WL.nil ?_
    refine WX.thenC ?_
    refine WC.condF rfl ?_
    refine WC.seq ?_
    refine WC.seq ?_
    refine WC.region ?_
    refine WL.val (Val.eql rfl rfl rfl) rfl ?_
    refine WL.val (Val.assignB rfl) rfl ?_
    refine WL.nil ?_
    refine WX.thenC ?_
    refine WC.condF rfl ?_
    refine WC.region ?_
    refine WL.val (Val.eql rfl rfl rfl) rfl ?_
    refine WL.val (Val.assignB rfl) rfl ?_
    refine WL.nil ?_
    refine WX.thenC ?_
    refine WC.condF rfl ?_
    refine WC.seq ?_
    refine WC.region ?_
    refine WL.val (Val.eql rfl rfl rfl) rfl ?_
    refine WL.val (Val.assignB rfl) rfl ?_
    refine WL.nil ?_
    refine WX.thenC ?_
    refine WC.condF rfl ?_
    refine WC.skip ?_
    refine WX.inNormal ?_
    refine WX.thenC ?_
    refine WC.seq ?_
    refine WC.region ?_
    refine WL.val (Val.ldO 3 rfl rfl rfl) rfl ?_
    refine WL.stA 2 rfl rfl rfl rfl ?_
    refine WL.nil ?_
    refine WX.thenC ?_
    refine WC.ret ?_
    apply WX.doneP (ks := [])
    case hres => exact RunRes.r1 rfl (ResIs.cellL 2 rfl rfl rfl)
    case hI => first | exact Mem.le.refl _ | assumption
    exact ⟨rfl, rfl, _, _, _, _, _, rfl, ⟨f0, f1, i64_0, i64_0, i64_0, i64_0, i64_0, (LsAt.nil _ _), (Atr.z_at I), Sg.z_ok, Pt.z_ok⟩⟩
  by_cases k3 : kind = 3
  · subst k3
    refine WC.seq ?_
    refine WC.region ?_
    (refine WL.boxA rfl rfl ?_; intro _)
    refine WL.nApp ?_
    (refine WL.alloc rfl ?_; intro _)
    refine WL.nApp ?_
    refine WL.nil ?_
    refine WX.thenC ?_
    refine WC.seq ?_
    refine WC.region ?_
    refine WL.val (Val.fldAddr rfl) rfl ?_
    refine WL.val (Val.loadS rfl (Rd.own1 1 rfl rfl)) rfl ?_
    refine WL.val (Val.fldAddr rfl) rfl ?_
    refine WL.val (Val.loadS rfl (Rd.own1 1 rfl rfl)) rfl ?_
    refine WL.val (Val.build (cs := (vi 3 :: vi id :: vi 0 :: vi 0 :: vi 0 :: vi 0 :: vi 0 :: .slice none 0 0 :: vi 0 :: vi 0 :: vi 0 :: vi 0 :: vi 0 :: vi 0 :: vi 0 :: byt 0 :: byt 0 :: byt 0 :: byt 0 :: vi 0 :: vi 0 :: vi 0 :: vi 0 :: .slice none 0 0 :: vi 0 :: byt 0 :: byt 0 :: byt 0 :: byt 0 :: vi 0 :: vi 0 :: vi 0 :: vi 0 :: .slice none 0 0 :: vi 0 :: vi 0 :: vi 0 :: .slice none 0 0 :: vi 0 :: vi 0 :: vi 0 :: .slice none 0 0 :: vi 0 :: vi 0 :: vi 0 :: vi 0 :: vi 0 :: vi 0 :: vi 0 :: vi 0 :: vi 0 :: [])) rfl) rfl ?_
    (refine WL.alloc rfl ?_; intro _)
    refine WL.nApp ?_
    refine WL.stA 3 rfl rfl rfl rfl ?_
    refine WL.nil ?_
    refine WX.thenC ?_
    refine WC.seq ?_
    refine WC.seq ?_
    refine WC.region ?_
    refine WL.val (Val.fldAddr rfl) rfl ?_
    refine WL.val (Val.loadS rfl (Rd.own1 1 rfl rfl)) rfl ?_
    refine WL.nil ?_
    refine WX.thenC ?_
    refine WC.block ?_
    refine WC.seq ?_
    refine WC.region ?_
    refine WL.val (Val.eql rfl rfl (beq_eq_false_iff_ne.2 (by omega))) rfl ?_
    refine WL.val (Val.assignB rfl) rfl ?_
    refine WL.nil ?_
    refine WX.thenC ?_
    refine WC.condF rfl ?_
    refine WC.seq ?_
    refine WC.region ?_
    refine WL.val (Val.eql rfl rfl rfl) rfl ?_
    refine WL.val (Val.assignB rfl) rfl ?_
    refine WL.nil ?_
    refine WX.thenC ?_
    refine WC.condT rfl ?_
    refine WC.drawK 999 I [1] rfl (by kernel_rfl) rfl rfl ?_
    refine WA.take 0 rfl (by kernel_rfl) rfl (fun w h => (h.sub [1] rfl)) (Val.fldAddr rfl) rfl ?_
    refine WA.take 1 rfl (by kernel_rfl) rfl (fun w h => (h.sub [1] rfl)) (Val.loadS rfl (Rd.own1 0 rfl rfl)) rfl ?_
    refine WA.take 2 rfl (by kernel_rfl) rfl (fun w h => (h.sub [1] rfl)) (Val.fldAddr rfl) rfl ?_
    refine WA.take 3 rfl (by kernel_rfl) rfl (fun w h => (h.sub [1] rfl)) (Val.loadS rfl (Rd.own1 0 rfl rfl)) rfl ?_
    refine WA.take 4 rfl (by kernel_rfl) rfl (fun w h => (h.sub [1] rfl)) (Val.fldAddr rfl) rfl ?_
    refine WA.eff1 (i := 5) (by kernel_rfl) rfl rfl ?_
    refine WL.stI 3 rfl rfl rfl rfl ?_
    refine WL.nil ?_
    refine WK.anyStep (fun w h => (h.sub [1] rfl)) ?_
    refine WA.take 6 rfl (by kernel_rfl) rfl (fun w h => (h.sub [1] rfl)) (Val.fldAddr rfl) rfl ?_
    refine WA.eff1 (i := 7) (by kernel_rfl) rfl rfl ?_
    refine WL.stI 3 rfl rfl rfl rfl ?_
    refine WL.nil ?_
    refine WK.anyStep (fun w h => (h.sub [1] rfl)) ?_
    refine WA.done (by kernel_rfl) ?_
    refine WX.inNormal ?_
    refine WX.thenC ?_
    refine WC.seq ?_
    refine WC.region ?_
    refine WL.val (Val.ldO 3 rfl rfl rfl) rfl ?_
    refine WL.stA 2 rfl rfl rfl rfl ?_
    refine WL.nil ?_
    refine WX.thenC ?_
    refine WC.ret ?_
    apply WX.doneP (ks := [])
    case hres => exact RunRes.r1 rfl (ResIs.cellL 2 rfl rfl rfl)
    case hI => first | exact Mem.le.refl _ | assumption
    exact ⟨rfl, rfl, _, _, _, _, _, rfl, ⟨f0, f1, f2, f3, i64_0, i64_0, i64_0, (LsAt.nil _ _), (Atr.z_at I), Sg.z_ok, Pt.z_ok⟩⟩
  by_cases k4 : kind = 4
  · subst k4
    refine WC.seq ?_
    refine WC.region ?_
    (refine WL.boxA rfl rfl ?_; intro _)
    refine WL.nApp ?_
    (refine WL.alloc rfl ?_; intro _)
    refine WL.nApp ?_
    refine WL.nil ?_
    refine WX.thenC ?_
    refine WC.seq ?_
    refine WC.region ?_
    refine WL.val (Val.fldAddr rfl) rfl ?_
    refine WL.val (Val.loadS rfl (Rd.own1 1 rfl rfl)) rfl ?_
    refine WL.val (Val.fldAddr rfl) rfl ?_
    refine WL.val (Val.loadS rfl (Rd.own1 1 rfl rfl)) rfl ?_
    refine WL.val (Val.build (cs := (vi 4 :: vi id :: vi 0 :: vi 0 :: vi 0 :: vi 0 :: vi 0 :: .slice none 0 0 :: vi 0 :: vi 0 :: vi 0 :: vi 0 :: vi 0 :: vi 0 :: vi 0 :: byt 0 :: byt 0 :: byt 0 :: byt 0 :: vi 0 :: vi 0 :: vi 0 :: vi 0 :: .slice none 0 0 :: vi 0 :: byt 0 :: byt 0 :: byt 0 :: byt 0 :: vi 0 :: vi 0 :: vi 0 :: vi 0 :: .slice none 0 0 :: vi 0 :: vi 0 :: vi 0 :: .slice none 0 0 :: vi 0 :: vi 0 :: vi 0 :: .slice none 0 0 :: vi 0 :: vi 0 :: vi 0 :: vi 0 :: vi 0 :: vi 0 :: vi 0 :: vi 0 :: vi 0 :: [])) rfl) rfl ?_
    (refine WL.alloc rfl ?_; intro _)
    refine WL.nApp ?_
    refine WL.stA 3 rfl rfl rfl rfl ?_
    refine WL.nil ?_
    refine WX.thenC ?_
    refine WC.seq ?_
    refine WC.seq ?_
    refine WC.region ?_
    refine WL.val (Val.fldAddr rfl) rfl ?_
    refine WL.val (Val.loadS rfl (Rd.own1 1 rfl rfl)) rfl ?_
    refine WL.nil ?_
    refine WX.thenC ?_
    refine WC.block ?_
    refine WC.seq ?_
    refine WC.region ?_
    refine WL.val (Val.eql rfl rfl (beq_eq_false_iff_ne.2 (by omega))) rfl ?_
    refine WL.val (Val.assignB rfl) rfl ?_
    refine WL.nil ?_
    refine WX.thenC ?_
    refine WC.condF rfl ?_
    refine WC.seq ?_
    refine WC.region ?_
    refine WL.val (Val.eql rfl rfl (beq_eq_false_iff_ne.2 (by omega))) rfl ?_
    refine WL.val (Val.assignB rfl) rfl ?_
    refine WL.nil ?_
    refine WX.thenC ?_
    refine WC.condF rfl ?_
    refine WC.seq ?_
    refine WC.region ?_
    refine WL.val (Val.eql rfl rfl rfl) rfl ?_
    refine WL.val (Val.assignB rfl) rfl ?_
    refine WL.nil ?_
    refine WX.thenC ?_
    refine WC.condT rfl ?_
    refine WC.drawK 999 I [1] rfl (by kernel_rfl) rfl rfl ?_
    refine WA.take 0 rfl (by kernel_rfl) rfl (fun w h => (h.sub [1] rfl)) (Val.fldAddr rfl) rfl ?_
    refine WA.take 1 rfl (by kernel_rfl) rfl (fun w h => (h.sub [1] rfl)) (Val.loadS rfl (Rd.own1 0 rfl rfl)) rfl ?_
    refine WA.take 2 rfl (by kernel_rfl) rfl (fun w h => (h.sub [1] rfl)) (Val.fldAddr rfl) rfl ?_
    refine WA.take 3 rfl (by kernel_rfl) rfl (fun w h => (h.sub [1] rfl)) (Val.loadS rfl (Rd.own1 0 rfl rfl)) rfl ?_
    refine WA.take 4 rfl (by kernel_rfl) rfl (fun w h => (h.sub [1] rfl)) (Val.fldAddr rfl) rfl ?_
    refine WA.take 5 rfl (by kernel_rfl) rfl (fun w h => (h.sub [1] rfl)) (Val.loadS rfl (Rd.own1 0 rfl rfl)) rfl ?_
    refine WA.take 6 rfl (by kernel_rfl) rfl (fun w h => (h.sub [1] rfl)) (Val.fldAddr rfl) rfl ?_
    refine WA.take 7 rfl (by kernel_rfl) rfl (fun w h => (h.sub [1] rfl)) (Val.ldO 0 rfl rfl rfl) rfl ?_
    refine WA.take 8 rfl (by kernel_rfl) rfl (fun w h => (h.sub [1] rfl)) (Val.fldAddr rfl) rfl ?_
    refine WA.eff1 (i := 9) (by kernel_rfl) rfl rfl ?_
    refine WL.stI 3 rfl rfl rfl rfl ?_
    refine WL.nil ?_
    refine WK.anyStep (fun w h => (h.sub [1] rfl)) ?_
    refine WA.take 10 rfl (by kernel_rfl) rfl (fun w h => (h.sub [1] rfl)) (Val.fldAddr rfl) rfl ?_
    refine WA.eff1 (i := 11) (by kernel_rfl) rfl rfl ?_
    refine WL.stI 3 rfl rfl rfl rfl ?_
    refine WL.nil ?_
    refine WK.anyStep (fun w h => (h.sub [1] rfl)) ?_
    refine WA.take 12 rfl (by kernel_rfl) rfl (fun w h => (h.sub [1] rfl)) (Val.fldAddr rfl) rfl ?_
    refine WA.eff1 (i := 13) (by kernel_rfl) rfl rfl ?_
    refine WL.stI 3 rfl rfl rfl rfl ?_
    refine WL.nil ?_
    refine WK.anyStep (fun w h => (h.sub [1] rfl)) ?_
    refine WA.take 14 rfl (by kernel_rfl) rfl (fun w h => (h.sub [1] rfl)) (Val.fldAddr rfl) rfl ?_
    refine WA.eff1 (i := 15) (by kernel_rfl) rfl rfl ?_
    refine WL.stA 3 rfl rfl rfl rfl ?_
    refine WL.nil ?_
    refine WK.anyStep (fun w h => (h.sub [1] rfl)) ?_
    refine WA.done (by kernel_rfl) ?_
    refine WX.inNormal ?_
    refine WX.thenC ?_
    refine WC.seq ?_
    refine WC.region ?_
    refine WL.val (Val.ldO 3 rfl rfl rfl) rfl ?_
    refine WL.stA 2 rfl rfl rfl rfl ?_
    refine WL.nil ?_
    refine WX.thenC ?_
    refine WC.ret ?_
    apply WX.doneP (ks := [])
    case hres => exact RunRes.r1 rfl (ResIs.cellL 2 rfl rfl rfl)
    case hI => first | exact Mem.le.refl _ | assumption
    exact ⟨rfl, rfl, _, _, _, _, _, rfl, ⟨f0, f1, f2, f3, f4, i64_0, i64_0, (LsAt.nil _ _), f8, Sg.z_ok, Pt.z_ok⟩⟩
  by_cases k5 : kind = 5
  · subst k5
    refine WC.seq ?_
    refine WC.region ?_
    (refine WL.boxA rfl rfl ?_; intro _)
    refine WL.nApp ?_
    (refine WL.alloc rfl ?_; intro _)
    refine WL.nApp ?_
    refine WL.nil ?_
    refine WX.thenC ?_
    refine WC.seq ?_
    refine WC.region ?_
    refine WL.val (Val.fldAddr rfl) rfl ?_
    refine WL.val (Val.loadS rfl (Rd.own1 1 rfl rfl)) rfl ?_
    refine WL.val (Val.fldAddr rfl) rfl ?_
    refine WL.val (Val.loadS rfl (Rd.own1 1 rfl rfl)) rfl ?_
    refine WL.val (Val.build (cs := (vi 5 :: vi id :: vi 0 :: vi 0 :: vi 0 :: vi 0 :: vi 0 :: .slice none 0 0 :: vi 0 :: vi 0 :: vi 0 :: vi 0 :: vi 0 :: vi 0 :: vi 0 :: byt 0 :: byt 0 :: byt 0 :: byt 0 :: vi 0 :: vi 0 :: vi 0 :: vi 0 :: .slice none 0 0 :: vi 0 :: byt 0 :: byt 0 :: byt 0 :: byt 0 :: vi 0 :: vi 0 :: vi 0 :: vi 0 :: .slice none 0 0 :: vi 0 :: vi 0 :: vi 0 :: .slice none 0 0 :: vi 0 :: vi 0 :: vi 0 :: .slice none 0 0 :: vi 0 :: vi 0 :: vi 0 :: vi 0 :: vi 0 :: vi 0 :: vi 0 :: vi 0 :: vi 0 :: [])) rfl) rfl ?_
    (refine WL.alloc rfl ?_; intro _)
    refine WL.nApp ?_
    refine WL.stA 3 rfl rfl rfl rfl ?_
    refine WL.nil ?_
    refine WX.thenC ?_
    refine WC.seq ?_
    refine WC.seq ?_
    refine WC.region ?_
    refine WL.val (Val.fldAddr rfl) rfl ?_
    refine WL.val (Val.loadS rfl (Rd.own1 1 rfl rfl)) rfl ?_
    refine WL.nil ?_
    refine WX.thenC ?_
    refine WC.block ?_
    refine WC.seq ?_
    refine WC.region ?_
    refine WL.val (Val.eql rfl rfl (beq_eq_false_iff_ne.2 (by omega))) rfl ?_
    refine WL.val (Val.assignB rfl) rfl ?_
    refine WL.nil ?_
    refine WX.thenC ?_
    refine WC.condF rfl ?_
    refine WC.seq ?_
    refine WC.region ?_
    refine WL.val (Val.eql rfl rfl (beq_eq_false_iff_ne.2 (by omega))) rfl ?_
    refine WL.val (Val.assignB rfl) rfl ?_
    refine WL.nil ?_
    refine WX.thenC ?_
    refine WC.condF rfl ?_
    refine WC.seq ?_
    refine WC.region ?_
    refine WL.val (Val.eql rfl rfl (beq_eq_false_iff_ne.2 (by omega))) rfl ?_
    refine WL.val (Val.assignB rfl) rfl ?_
    refine WL.nil ?_
    refine WX.thenC ?_
    refine WC.condF rfl ?_
    refine WC.seq ?_
    refine WC.region ?_
    refine WL.val (Val.eql rfl rfl rfl) rfl ?_
    refine WL.val (Val.assignB rfl) rfl ?_
    refine WL.nil ?_
    refine WX.thenC ?_
    refine WC.condF rfl ?_
    refine WC.seq ?_
    refine WC.region ?_
    refine WL.val (Val.eql rfl rfl rfl) rfl ?_
    refine WL.val (Val.assignB rfl) rfl ?_
    refine WL.nil ?_
    refine WX.thenC ?_
    refine WC.condF rfl ?_
    refine WC.seq ?_
    refine WC.region ?_
    refine WL.val (Val.eql rfl rfl rfl) rfl ?_
    refine WL.val (Val.assignB rfl) rfl ?_
    refine WL.nil ?_
    refine WX.thenC ?_
    refine WC.condF rfl ?_
    refine WC.seq ?_
    refine WC.region ?_
    refine WL.val (Val.eql rfl rfl rfl) rfl ?_
    refine WL.val (Val.assignB rfl) rfl ?_
    refine WL.nil ?_
    refine WX.thenC ?_
    refine WC.condF rfl ?_
    refine WC.seq ?_
    refine WC.seq ?_
    refine WC.region ?_
    refine WL.val (Val.eql rfl rfl rfl) rfl ?_
    refine WL.val (Val.assignB rfl) rfl ?_
    refine WL.nil ?_
    refine WX.thenC ?_
    refine WC.condF rfl ?_
    refine WC.region ?_
    refine WL.val (Val.eql rfl rfl rfl) rfl ?_
    refine WL.val (Val.assignB rfl) rfl ?_
    refine WL.nil ?_
    refine WX.thenC ?_
    refine WC.condF rfl ?_
    refine WC.seq ?_
    refine WC.region ?_
    refine WL.val (Val.eql rfl rfl rfl) rfl ?_
    refine WL.val (Val.assignB rfl) rfl ?_
    refine WL.nil ?_
    refine WX.thenC ?_
    refine WC.condF rfl ?_
    refine WC.skip ?_
    refine WX.inNormal ?_
    refine WX.thenC ?_
    refine WC.seq ?_
    refine WC.region ?_
    refine WL.val (Val.ldO 3 rfl rfl rfl) rfl ?_
    refine WL.stA 2 rfl rfl rfl rfl ?_
    refine WL.nil ?_
    refine WX.thenC ?_
    refine WC.ret ?_
    apply WX.doneP (ks := [])
    case hres => exact RunRes.r1 rfl (ResIs.cellL 2 rfl rfl rfl)
    case hI => first | exact Mem.le.refl _ | assumption
    exact ⟨rfl, rfl, _, _, _, _, _, rfl, ⟨f0, f1, i64_0, i64_0, i64_0, i64_0, i64_0, (LsAt.nil _ _), (Atr.z_at I), Sg.z_ok, Pt.z_ok⟩⟩
  by_cases k6 : kind = 6
  · subst k6
    refine WC.seq ?_
    refine WC.region ?_
    (refine WL.boxA rfl rfl ?_; intro _)
    refine WL.nApp ?_
    (refine WL.alloc rfl ?_; intro _)
    refine WL.nApp ?_
    refine WL.nil ?_
    refine WX.thenC ?_
    refine WC.seq ?_
    refine WC.region ?_
    refine WL.val (Val.fldAddr rfl) rfl ?_
    refine WL.val (Val.loadS rfl (Rd.own1 1 rfl rfl)) rfl ?_
    refine WL.val (Val.fldAddr rfl) rfl ?_
    refine WL.val (Val.loadS rfl (Rd.own1 1 rfl rfl)) rfl ?_
    refine WL.val (Val.build (cs := (vi 6 :: vi id :: vi 0 :: vi 0 :: vi 0 :: vi 0 :: vi 0 :: .slice none 0 0 :: vi 0 :: vi 0 :: vi 0 :: vi 0 :: vi 0 :: vi 0 :: vi 0 :: byt 0 :: byt 0 :: byt 0 :: byt 0 :: vi 0 :: vi 0 :: vi 0 :: vi 0 :: .slice none 0 0 :: vi 0 :: byt 0 :: byt 0 :: byt 0 :: byt 0 :: vi 0 :: vi 0 :: vi 0 :: vi 0 :: .slice none 0 0 :: vi 0 :: vi 0 :: vi 0 :: .slice none 0 0 :: vi 0 :: vi 0 :: vi 0 :: .slice none 0 0 :: vi 0 :: vi 0 :: vi 0 :: vi 0 :: vi 0 :: vi 0 :: vi 0 :: vi 0 :: vi 0 :: [])) rfl) rfl ?_
    (refine WL.alloc rfl ?_; intro _)
    refine WL.nApp ?_
    refine WL.stA 3 rfl rfl rfl rfl ?_
    refine WL.nil ?_
    refine WX.thenC ?_
    refine WC.seq ?_
    refine WC.seq ?_
    refine WC.region ?_
    refine WL.val (Val.fldAddr rfl) rfl ?_
    refine WL.val (Val.loadS rfl (Rd.own1 1 rfl rfl)) rfl ?_
    refine WL.nil ?_
    refine WX.thenC ?_
    refine WC.block ?_
    refine WC.seq ?_
    refine WC.region ?_
    refine WL.val (Val.eql rfl rfl (beq_eq_false_iff_ne.2 (by omega))) rfl ?_
    refine WL.val (Val.assignB rfl) rfl ?_
    refine WL.nil ?_
    refine WX.thenC ?_
    refine WC.condF rfl ?_
    refine WC.seq ?_
    refine WC.region ?_
    refine WL.val (Val.eql rfl rfl (beq_eq_false_iff_ne.2 (by omega))) rfl ?_
    refine WL.val (Val.assignB rfl) rfl ?_
    refine WL.nil ?_
    refine WX.thenC ?_
    refine WC.condF rfl ?_
    refine WC.seq ?_
    refine WC.region ?_
    refine WL.val (Val.eql rfl rfl (beq_eq_false_iff_ne.2 (by omega))) rfl ?_
    refine WL.val (Val.assignB rfl) rfl ?_
    refine WL.nil ?_
    refine WX.thenC ?_
    refine WC.condF rfl ?_
    refine WC.seq ?_
    refine WC.region ?_
    refine WL.val (Val.eql rfl rfl rfl) rfl ?_
    refine WL.val (Val.assignB rfl) rfl ?_
    refine WL.nil ?_
    refine WX.thenC ?_
    refine WC.condT rfl ?_
    refine WC.region ?_
    refine WL.val (Val.fldAddr rfl) rfl ?_
    refine WL.val (Val.fldAddr rfl) rfl ?_
    refine WL.val (Val.ldO 1 rfl rfl rfl) rfl ?_
    refine WL.val (Val.fldAddr rfl) rfl ?_
    refine WL.val (Val.fldAddr rfl) rfl ?_
    refine WL.stA 3 rfl rfl rfl rfl ?_
    refine WL.nil ?_
    refine WX.inNormal ?_
    refine WX.thenC ?_
    refine WC.seq ?_
    refine WC.region ?_
    refine WL.val (Val.ldO 3 rfl rfl rfl) rfl ?_
    refine WL.stA 2 rfl rfl rfl rfl ?_
    refine WL.nil ?_
    refine WX.thenC ?_
    refine WC.ret ?_
    apply WX.doneP (ks := [])
    case hres => exact RunRes.r1 rfl (ResIs.cellL 2 rfl rfl rfl)
    case hI => first | exact Mem.le.refl _ | assumption
    exact ⟨rfl, rfl, _, _, _, _, _, rfl, ⟨f0, f1, i64_0, i64_0, i64_0, i64_0, i64_0, (LsAt.nil _ _), ⟨f8.mtx, Sty.z_at I, LsAt.nil _ _⟩, Sg.z_ok, Pt.z_ok⟩⟩
  by_cases k7 : kind = 7
  · subst k7
    refine WC.seq ?_
    refine WC.region ?_
    (refine WL.boxA rfl rfl ?_; intro _)
    refine WL.nApp ?_
    (refine WL.alloc rfl ?_; intro _)
    refine WL.nApp ?_
    refine WL.nil ?_
    refine WX.thenC ?_
    refine WC.seq ?_
    refine WC.region ?_
    refine WL.val (Val.fldAddr rfl) rfl ?_
    refine WL.val (Val.loadS rfl (Rd.own1 1 rfl rfl)) rfl ?_
    refine WL.val (Val.fldAddr rfl) rfl ?_
    refine WL.val (Val.loadS rfl (Rd.own1 1 rfl rfl)) rfl ?_
    refine WL.val (Val.build (cs := (vi 7 :: vi id :: vi 0 :: vi 0 :: vi 0 :: vi 0 :: vi 0 :: .slice none 0 0 :: vi 0 :: vi 0 :: vi 0 :: vi 0 :: vi 0 :: vi 0 :: vi 0 :: byt 0 :: byt 0 :: byt 0 :: byt 0 :: vi 0 :: vi 0 :: vi 0 :: vi 0 :: .slice none 0 0 :: vi 0 :: byt 0 :: byt 0 :: byt 0 :: byt 0 :: vi 0 :: vi 0 :: vi 0 :: vi 0 :: .slice none 0 0 :: vi 0 :: vi 0 :: vi 0 :: .slice none 0 0 :: vi 0 :: vi 0 :: vi 0 :: .slice none 0 0 :: vi 0 :: vi 0 :: vi 0 :: vi 0 :: vi 0 :: vi 0 :: vi 0 :: vi 0 :: vi 0 :: [])) rfl) rfl ?_
    (refine WL.alloc rfl ?_; intro _)
    refine WL.nApp ?_
    refine WL.stA 3 rfl rfl rfl rfl ?_
    refine WL.nil ?_
    refine WX.thenC ?_
    refine WC.seq ?_
    refine WC.seq ?_
    refine WC.region ?_
    refine WL.val (Val.fldAddr rfl) rfl ?_
    refine WL.val (Val.loadS rfl (Rd.own1 1 rfl rfl)) rfl ?_
    refine WL.nil ?_
    refine WX.thenC ?_
    refine WC.block ?_
    refine WC.seq ?_
    refine WC.region ?_
    refine WL.val (Val.eql rfl rfl (beq_eq_false_iff_ne.2 (by omega))) rfl ?_
    refine WL.val (Val.assignB rfl) rfl ?_
    refine WL.nil ?_
    refine WX.thenC ?_
    refine WC.condF rfl ?_
    refine WC.seq ?_
    refine WC.region ?_
    refine WL.val (Val.eql rfl rfl (beq_eq_false_iff_ne.2 (by omega))) rfl ?_
    refine WL.val (Val.assignB rfl) rfl ?_
    refine WL.nil ?_
    refine WX.thenC ?_
    refine WC.condF rfl ?_
    refine WC.seq ?_
    refine WC.region ?_
    refine WL.val (Val.eql rfl rfl (beq_eq_false_iff_ne.2 (by omega))) rfl ?_
    refine WL.val (Val.assignB rfl) rfl ?_
    refine WL.nil ?_
    refine WX.thenC ?_
    refine WC.condF rfl ?_
    refine WC.seq ?_
    refine WC.region ?_
    refine WL.val (Val.eql rfl rfl (beq_eq_false_iff_ne.2 (by omega))) rfl ?_
    refine WL.val (Val.assignB rfl) rfl ?_
    refine WL.nil ?_
    refine WX.thenC ?_
    refine WC.condF rfl ?_
    refine WC.seq ?_
    refine WC.region ?_
    refine WL.val (Val.eql rfl rfl rfl) rfl ?_
    refine WL.val (Val.assignB rfl) rfl ?_
    refine WL.nil ?_
    refine WX.thenC ?_
    refine WC.condT rfl ?_
    refine WC.region ?_
    refine WL.val (Val.fldAddr rfl) rfl ?_
    refine WL.val (Val.fldAddr rfl) rfl ?_
    refine WL.val (Val.ldO 1 rfl rfl rfl) rfl ?_
    refine WL.val (Val.fldAddr rfl) rfl ?_
    refine WL.val (Val.fldAddr rfl) rfl ?_
    refine WL.stA 3 rfl rfl rfl rfl ?_
    refine WL.nil ?_
    refine WX.inNormal ?_
    refine WX.thenC ?_
    refine WC.seq ?_
    refine WC.region ?_
    refine WL.val (Val.ldO 3 rfl rfl rfl) rfl ?_
    refine WL.stA 2 rfl rfl rfl rfl ?_
    refine WL.nil ?_
    refine WX.thenC ?_
    refine WC.ret ?_
    apply WX.doneP (ks := [])
    case hres => exact RunRes.r1 rfl (ResIs.cellL 2 rfl rfl rfl)
    case hI => first | exact Mem.le.refl _ | assumption
    exact ⟨rfl, rfl, _, _, _, _, _, rfl, ⟨f0, f1, i64_0, i64_0, i64_0, i64_0, i64_0, (LsAt.nil _ _), ⟨Mtx.z_ok, f8.sty, LsAt.nil _ _⟩, Sg.z_ok, Pt.z_ok⟩⟩
  by_cases k8 : kind = 8
  · subst k8
    refine WC.seq ?_
    refine WC.region ?_
    (refine WL.boxA rfl rfl ?_; intro _)
    refine WL.nApp ?_
    (refine WL.alloc rfl ?_; intro _)
    refine WL.nApp ?_
    refine WL.nil ?_
    refine WX.thenC ?_
    refine WC.seq ?_
    refine WC.region ?_
    refine WL.val (Val.fldAddr rfl) rfl ?_
    refine WL.val (Val.loadS rfl (Rd.own1 1 rfl rfl)) rfl ?_
    refine WL.val (Val.fldAddr rfl) rfl ?_
    refine WL.val (Val.loadS rfl (Rd.own1 1 rfl rfl)) rfl ?_
    refine WL.val (Val.build (cs := (vi 8 :: vi id :: vi 0 :: vi 0 :: vi 0 :: vi 0 :: vi 0 :: .slice none 0 0 :: vi 0 :: vi 0 :: vi 0 :: vi 0 :: vi 0 :: vi 0 :: vi 0 :: byt 0 :: byt 0 :: byt 0 :: byt 0 :: vi 0 :: vi 0 :: vi 0 :: vi 0 :: .slice none 0 0 :: vi 0 :: byt 0 :: byt 0 :: byt 0 :: byt 0 :: vi 0 :: vi 0 :: vi 0 :: vi 0 :: .slice none 0 0 :: vi 0 :: vi 0 :: vi 0 :: .slice none 0 0 :: vi 0 :: vi 0 :: vi 0 :: .slice none 0 0 :: vi 0 :: vi 0 :: vi 0 :: vi 0 :: vi 0 :: vi 0 :: vi 0 :: vi 0 :: vi 0 :: [])) rfl) rfl ?_
    (refine WL.alloc rfl ?_; intro _)
    refine WL.nApp ?_
    refine WL.stA 3 rfl rfl rfl rfl ?_
    refine WL.nil ?_
    refine WX.thenC ?_
    refine WC.seq ?_
    refine WC.seq ?_
    refine WC.region ?_
    refine WL.val (Val.fldAddr rfl) rfl ?_
    refine WL.val (Val.loadS rfl (Rd.own1 1 rfl rfl)) rfl ?_
    refine WL.nil ?_
    refine WX.thenC ?_
    refine WC.block ?_
    refine WC.seq ?_
    refine WC.region ?_
    refine WL.val (Val.eql rfl rfl (beq_eq_false_iff_ne.2 (by omega))) rfl ?_
    refine WL.val (Val.assignB rfl) rfl ?_
    refine WL.nil ?_
    refine WX.thenC ?_
    refine WC.condF rfl ?_
    refine WC.seq ?_
    refine WC.region ?_
    refine WL.val (Val.eql rfl rfl (beq_eq_false_iff_ne.2 (by omega))) rfl ?_
    refine WL.val (Val.assignB rfl) rfl ?_
    refine WL.nil ?_
    refine WX.thenC ?_
    refine WC.condF rfl ?_
    refine WC.seq ?_
    refine WC.region ?_
    refine WL.val (Val.eql rfl rfl (beq_eq_false_iff_ne.2 (by omega))) rfl ?_
    refine WL.val (Val.assignB rfl) rfl ?_
    refine WL.nil ?_
    refine WX.thenC ?_
    refine WC.condF rfl ?_
    refine WC.seq ?_
    refine WC.region ?_
    refine WL.val (Val.eql rfl rfl (beq_eq_false_iff_ne.2 (by omega))) rfl ?_
    refine WL.val (Val.assignB rfl) rfl ?_
    refine WL.nil ?_
    refine WX.thenC ?_
    refine WC.condF rfl ?_
    refine WC.seq ?_
    refine WC.region ?_
    refine WL.val (Val.eql rfl rfl (beq_eq_false_iff_ne.2 (by omega))) rfl ?_
    refine WL.val (Val.assignB rfl) rfl ?_
    refine WL.nil ?_
    refine WX.thenC ?_
    refine WC.condF rfl ?_
    refine WC.seq ?_
    refine WC.region ?_
    refine WL.val (Val.eql rfl rfl rfl) rfl ?_
    refine WL.val (Val.assignB rfl) rfl ?_
    refine WL.nil ?_
    refine WX.thenC ?_
    refine WC.condT rfl ?_
    refine WC.region ?_
    refine WL.val (Val.fldAddr rfl) rfl ?_
    refine WL.val (Val.fldAddr rfl) rfl ?_
    refine WL.val (Val.loadS rfl (Rd.own1 1 rfl rfl)) rfl ?_
    refine WL.val (Val.fldAddr rfl) rfl ?_
    refine WL.val (Val.fldAddr rfl) rfl ?_
    refine WL.stS 3 rfl rfl rfl rfl ?_
    refine WL.nil ?_
    refine WX.inNormal ?_
    refine WX.thenC ?_
    refine WC.seq ?_
    refine WC.region ?_
    refine WL.val (Val.ldO 3 rfl rfl rfl) rfl ?_
    refine WL.stA 2 rfl rfl rfl rfl ?_
    refine WL.nil ?_
    refine WX.thenC ?_
    refine WC.ret ?_
    apply WX.doneP (ks := [])
    case hres => exact RunRes.r1 rfl (ResIs.cellL 2 rfl rfl rfl)
    case hI => first | exact Mem.le.refl _ | assumption
    exact ⟨rfl, rfl, _, _, _, _, _, rfl, ⟨f0, f1, i64_0, i64_0, i64_0, i64_0, i64_0, (LsAt.nil _ _), ⟨Mtx.z_ok, Sty.z_at I, f8.path⟩, Sg.z_ok, Pt.z_ok⟩⟩
  by_cases k9 : kind = 9
  · subst k9
    refine WC.seq ?_
    refine WC.region ?_
    (refine WL.boxA rfl rfl ?_; intro _)
    refine WL.nApp ?_
    (refine WL.alloc rfl ?_; intro _)
    refine WL.nApp ?_
    refine WL.nil ?_
    refine WX.thenC ?_
    refine WC.seq ?_
    refine WC.region ?_
    refine WL.val (Val.fldAddr rfl) rfl ?_
    refine WL.val (Val.loadS rfl (Rd.own1 1 rfl rfl)) rfl ?_
    refine WL.val (Val.fldAddr rfl) rfl ?_
    refine WL.val (Val.loadS rfl (Rd.own1 1 rfl rfl)) rfl ?_
    refine WL.val (Val.build (cs := (vi 9 :: vi id :: vi 0 :: vi 0 :: vi 0 :: vi 0 :: vi 0 :: .slice none 0 0 :: vi 0 :: vi 0 :: vi 0 :: vi 0 :: vi 0 :: vi 0 :: vi 0 :: byt 0 :: byt 0 :: byt 0 :: byt 0 :: vi 0 :: vi 0 :: vi 0 :: vi 0 :: .slice none 0 0 :: vi 0 :: byt 0 :: byt 0 :: byt 0 :: byt 0 :: vi 0 :: vi 0 :: vi 0 :: vi 0 :: .slice none 0 0 :: vi 0 :: vi 0 :: vi 0 :: .slice none 0 0 :: vi 0 :: vi 0 :: vi 0 :: .slice none 0 0 :: vi 0 :: vi 0 :: vi 0 :: vi 0 :: vi 0 :: vi 0 :: vi 0 :: vi 0 :: vi 0 :: [])) rfl) rfl ?_
    (refine WL.alloc rfl ?_; intro _)
    refine WL.nApp ?_
    refine WL.stA 3 rfl rfl rfl rfl ?_
    refine WL.nil ?_
    refine WX.thenC ?_
    refine WC.seq ?_
    refine WC.seq ?_
    refine WC.region ?_
    refine WL.val (Val.fldAddr rfl) rfl ?_
    refine WL.val (Val.loadS rfl (Rd.own1 1 rfl rfl)) rfl ?_
    refine WL.nil ?_
    refine WX.thenC ?_
    refine WC.block ?_
    refine WC.seq ?_
    refine WC.region ?_
    refine WL.val (Val.eql rfl rfl (beq_eq_false_iff_ne.2 (by omega))) rfl ?_
    refine WL.val (Val.assignB rfl) rfl ?_
    refine WL.nil ?_
    refine WX.thenC ?_
    refine WC.condF rfl ?_
    refine WC.seq ?_
    refine WC.region ?_
    refine WL.val (Val.eql rfl rfl (beq_eq_false_iff_ne.2 (by omega))) rfl ?_
    refine WL.val (Val.assignB rfl) rfl ?_
    refine WL.nil ?_
    refine WX.thenC ?_
    refine WC.condF rfl ?_
    refine WC.seq ?_
    refine WC.region ?_
    refine WL.val (Val.eql rfl rfl (beq_eq_false_iff_ne.2 (by omega))) rfl ?_
    refine WL.val (Val.assignB rfl) rfl ?_
    refine WL.nil ?_
    refine WX.thenC ?_
    refine WC.condF rfl ?_
    refine WC.seq ?_
    refine WC.region ?_
    refine WL.val (Val.eql rfl rfl (beq_eq_false_iff_ne.2 (by omega))) rfl ?_
    refine WL.val (Val.assignB rfl) rfl ?_
    refine WL.nil ?_
    refine WX.thenC ?_
    refine WC.condF rfl ?_
    refine WC.seq ?_
    refine WC.region ?_
    refine WL.val (Val.eql rfl rfl (beq_eq_false_iff_ne.2 (by omega))) rfl ?_
    refine WL.val (Val.assignB rfl) rfl ?_
    refine WL.nil ?_
    refine WX.thenC ?_
    refine WC.condF rfl ?_
    refine WC.seq ?_
    refine WC.region ?_
    refine WL.val (Val.eql rfl rfl (beq_eq_false_iff_ne.2 (by omega))) rfl ?_
    refine WL.val (Val.assignB rfl) rfl ?_
    refine WL.nil ?_
    refine WX.thenC ?_
    refine WC.condF rfl ?_
    refine WC.seq ?_
    refine WC.region ?_
    refine WL.val (Val.eql rfl rfl rfl) rfl ?_
    refine WL.val (Val.assignB rfl) rfl ?_
    refine WL.nil ?_
    refine WX.thenC ?_
    refine WC.condT rfl ?_
    refine WC.drawK 999 I [1] rfl (by kernel_rfl) rfl rfl ?_
    refine WA.take 0 rfl (by kernel_rfl) rfl (fun w h => (h.sub [1] rfl)) (Val.fldAddr rfl) rfl ?_
    refine WA.take 1 rfl (by kernel_rfl) rfl (fun w h => (h.sub [1] rfl)) (Val.loadS rfl (Rd.own1 0 rfl rfl)) rfl ?_
    refine WA.take 2 rfl (by kernel_rfl) rfl (fun w h => (h.sub [1] rfl)) (Val.fldAddr rfl) rfl ?_
    refine WA.take 3 rfl (by kernel_rfl) rfl (fun w h => (h.sub [1] rfl)) (Val.ldO 0 rfl rfl rfl) rfl ?_
    refine WA.take 4 rfl (by kernel_rfl) rfl (fun w h => (h.sub [1] rfl)) (Val.fldAddr rfl) rfl ?_
    refine WA.eff1 (i := 5) (by kernel_rfl) rfl rfl ?_
    refine WL.stI 3 rfl rfl rfl rfl ?_
    refine WL.nil ?_
    refine WK.anyStep (fun w h => (h.sub [1] rfl)) ?_
    refine WA.take 6 rfl (by kernel_rfl) rfl (fun w h => (h.sub [1] rfl)) (Val.fldAddr rfl) rfl ?_
    refine WA.eff1 (i := 7) (by kernel_rfl) rfl rfl ?_
    refine WL.stA 3 rfl rfl rfl rfl ?_
    refine WL.nil ?_
    refine WK.anyStep (fun w h => (h.sub [1] rfl)) ?_
    refine WA.done (by kernel_rfl) ?_
    refine WX.inNormal ?_
    refine WX.thenC ?_
    refine WC.seq ?_
    refine WC.region ?_
    refine WL.val (Val.ldO 3 rfl rfl rfl) rfl ?_
    refine WL.stA 2 rfl rfl rfl rfl ?_
    refine WL.nil ?_
    refine WX.thenC ?_
    refine WC.ret ?_
    apply WX.doneP (ks := [])
    case hres => exact RunRes.r1 rfl (ResIs.cellL 2 rfl rfl rfl)
    case hI => first | exact Mem.le.refl _ | assumption
    exact ⟨rfl, rfl, _, _, _, _, _, rfl, ⟨f0, f1, i64_0, i64_0, i64_0, f5, i64_0, (LsAt.nil _ _), (Atr.z_at I), f9, Pt.z_ok⟩⟩
  by_cases k10 : kind = 10
  · subst k10
    refine WC.seq ?_
    refine WC.region ?_
    (refine WL.boxA rfl rfl ?_; intro _)
    refine WL.nApp ?_
    (refine WL.alloc rfl ?_; intro _)
    refine WL.nApp ?_
    refine WL.nil ?_
    refine WX.thenC ?_
    refine WC.seq ?_
    refine WC.region ?_
    refine WL.val (Val.fldAddr rfl) rfl ?_
    refine WL.val (Val.loadS rfl (Rd.own1 1 rfl rfl)) rfl ?_
    refine WL.val (Val.fldAddr rfl) rfl ?_
    refine WL.val (Val.loadS rfl (Rd.own1 1 rfl rfl)) rfl ?_
    refine WL.val (Val.build (cs := (vi 10 :: vi id :: vi 0 :: vi 0 :: vi 0 :: vi 0 :: vi 0 :: .slice none 0 0 :: vi 0 :: vi 0 :: vi 0 :: vi 0 :: vi 0 :: vi 0 :: vi 0 :: byt 0 :: byt 0 :: byt 0 :: byt 0 :: vi 0 :: vi 0 :: vi 0 :: vi 0 :: .slice none 0 0 :: vi 0 :: byt 0 :: byt 0 :: byt 0 :: byt 0 :: vi 0 :: vi 0 :: vi 0 :: vi 0 :: .slice none 0 0 :: vi 0 :: vi 0 :: vi 0 :: .slice none 0 0 :: vi 0 :: vi 0 :: vi 0 :: .slice none 0 0 :: vi 0 :: vi 0 :: vi 0 :: vi 0 :: vi 0 :: vi 0 :: vi 0 :: vi 0 :: vi 0 :: [])) rfl) rfl ?_
    (refine WL.alloc rfl ?_; intro _)
    refine WL.nApp ?_
    refine WL.stA 3 rfl rfl rfl rfl ?_
    refine WL.nil ?_
    refine WX.thenC ?_
    refine WC.seq ?_
    refine WC.seq ?_
    refine WC.region ?_
    refine WL.val (Val.fldAddr rfl) rfl ?_
    refine WL.val (Val.loadS rfl (Rd.own1 1 rfl rfl)) rfl ?_
    refine WL.nil ?_
    refine WX.thenC ?_
    refine WC.block ?_
    refine WC.seq ?_
    refine WC.region ?_
    refine WL.val (Val.eql rfl rfl (beq_eq_false_iff_ne.2 (by omega))) rfl ?_
    refine WL.val (Val.assignB rfl) rfl ?_
    refine WL.nil ?_
    refine WX.thenC ?_
    refine WC.condF rfl ?_
    refine WC.seq ?_
    refine WC.region ?_
    refine WL.val (Val.eql rfl rfl (beq_eq_false_iff_ne.2 (by omega))) rfl ?_
    refine WL.val (Val.assignB rfl) rfl ?_
    refine WL.nil ?_
    refine WX.thenC ?_
    refine WC.condF rfl ?_
    refine WC.seq ?_
    refine WC.region ?_
    refine WL.val (Val.eql rfl rfl (beq_eq_false_iff_ne.2 (by omega))) rfl ?_
    refine WL.val (Val.assignB rfl) rfl ?_
    refine WL.nil ?_
    refine WX.thenC ?_
    refine WC.condF rfl ?_
    refine WC.seq ?_
    refine WC.region ?_
    refine WL.val (Val.eql rfl rfl (beq_eq_false_iff_ne.2 (by omega))) rfl ?_
    refine WL.val (Val.assignB rfl) rfl ?_
    refine WL.nil ?_
    refine WX.thenC ?_
    refine WC.condF rfl ?_
    refine WC.seq ?_
    refine WC.region ?_
    refine WL.val (Val.eql rfl rfl (beq_eq_false_iff_ne.2 (by omega))) rfl ?_
    refine WL.val (Val.assignB rfl) rfl ?_
    refine WL.nil ?_
    refine WX.thenC ?_
    refine WC.condF rfl ?_
    refine WC.seq ?_
    refine WC.region ?_
    refine WL.val (Val.eql rfl rfl (beq_eq_false_iff_ne.2 (by omega))) rfl ?_
    refine WL.val (Val.assignB rfl) rfl ?_
    refine WL.nil ?_
    refine WX.thenC ?_
    refine WC.condF rfl ?_
    refine WC.seq ?_
    refine WC.region ?_
    refine WL.val (Val.eql rfl rfl (beq_eq_false_iff_ne.2 (by omega))) rfl ?_
    refine WL.val (Val.assignB rfl) rfl ?_
    refine WL.nil ?_
    refine WX.thenC ?_
    refine WC.condF rfl ?_
    refine WC.seq ?_
    refine WC.seq ?_
    refine WC.region ?_
    refine WL.val (Val.eql rfl rfl rfl) rfl ?_
    refine WL.val (Val.assignB rfl) rfl ?_
    refine WL.nil ?_
    refine WX.thenC ?_
    refine WC.condT rfl ?_
    refine WC.skip ?_
    refine WX.thenC ?_
    refine WC.condT rfl ?_
    refine WC.region ?_
    refine WL.val (Val.fldAddr rfl) rfl ?_
    refine WL.val (Val.loadS rfl (Rd.own1 1 rfl rfl)) rfl ?_
    refine WL.val (Val.fldAddr rfl) rfl ?_
    refine WL.stI 3 rfl rfl rfl rfl ?_
    refine WL.nil ?_
    refine WX.inNormal ?_
    refine WX.thenC ?_
    refine WC.seq ?_
    refine WC.region ?_
    refine WL.val (Val.ldO 3 rfl rfl rfl) rfl ?_
    refine WL.stA 2 rfl rfl rfl rfl ?_
    refine WL.nil ?_
    refine WX.thenC ?_
    refine WC.ret ?_
    apply WX.doneP (ks := [])
    case hres => exact RunRes.r1 rfl (ResIs.cellL 2 rfl rfl rfl)
    case hI => first | exact Mem.le.refl _ | assumption
    exact ⟨rfl, rfl, _, _, _, _, _, rfl, ⟨f0, f1, i64_0, i64_0, i64_0, f5, i64_0, (LsAt.nil _ _), (Atr.z_at I), Sg.z_ok, Pt.z_ok⟩⟩
  by_cases k11 : kind = 11
  · subst k11
    refine WC.seq ?_
    refine WC.region ?_
    (refine WL.boxA rfl rfl ?_; intro _)
    refine WL.nApp ?_
    (refine WL.alloc rfl ?_; intro _)
    refine WL.nApp ?_
    refine WL.nil ?_
    refine WX.thenC ?_
    refine WC.seq ?_
    refine WC.region ?_
    refine WL.val (Val.fldAddr rfl) rfl ?_
    refine WL.val (Val.loadS rfl (Rd.own1 1 rfl rfl)) rfl ?_
    refine WL.val (Val.fldAddr rfl) rfl ?_
    refine WL.val (Val.loadS rfl (Rd.own1 1 rfl rfl)) rfl ?_
    refine WL.val (Val.build (cs := (vi 11 :: vi id :: vi 0 :: vi 0 :: vi 0 :: vi 0 :: vi 0 :: .slice none 0 0 :: vi 0 :: vi 0 :: vi 0 :: vi 0 :: vi 0 :: vi 0 :: vi 0 :: byt 0 :: byt 0 :: byt 0 :: byt 0 :: vi 0 :: vi 0 :: vi 0 :: vi 0 :: .slice none 0 0 :: vi 0 :: byt 0 :: byt 0 :: byt 0 :: byt 0 :: vi 0 :: vi 0 :: vi 0 :: vi 0 :: .slice none 0 0 :: vi 0 :: vi 0 :: vi 0 :: .slice none 0 0 :: vi 0 :: vi 0 :: vi 0 :: .slice none 0 0 :: vi 0 :: vi 0 :: vi 0 :: vi 0 :: vi 0 :: vi 0 :: vi 0 :: vi 0 :: vi 0 :: [])) rfl) rfl ?_
    (refine WL.alloc rfl ?_; intro _)
    refine WL.nApp ?_
    refine WL.stA 3 rfl rfl rfl rfl ?_
    refine WL.nil ?_
    refine WX.thenC ?_
    refine WC.seq ?_
    refine WC.seq ?_
    refine WC.region ?_
    refine WL.val (Val.fldAddr rfl) rfl ?_
    refine WL.val (Val.loadS rfl (Rd.own1 1 rfl rfl)) rfl ?_
    refine WL.nil ?_
    refine WX.thenC ?_
    refine WC.block ?_
    refine WC.seq ?_
    refine WC.region ?_
    refine WL.val (Val.eql rfl rfl (beq_eq_false_iff_ne.2 (by omega))) rfl ?_
    refine WL.val (Val.assignB rfl) rfl ?_
    refine WL.nil ?_
    refine WX.thenC ?_
    refine WC.condF rfl ?_
    refine WC.seq ?_
    refine WC.region ?_
    refine WL.val (Val.eql rfl rfl (beq_eq_false_iff_ne.2 (by omega))) rfl ?_
    refine WL.val (Val.assignB rfl) rfl ?_
    refine WL.nil ?_
    refine WX.thenC ?_
    refine WC.condF rfl ?_
    refine WC.seq ?_
    refine WC.region ?_
    refine WL.val (Val.eql rfl rfl (beq_eq_false_iff_ne.2 (by omega))) rfl ?_
    refine WL.val (Val.assignB rfl) rfl ?_
    refine WL.nil ?_
    refine WX.thenC ?_
    refine WC.condF rfl ?_
    refine WC.seq ?_
    refine WC.region ?_
    refine WL.val (Val.eql rfl rfl (beq_eq_false_iff_ne.2 (by omega))) rfl ?_
    refine WL.val (Val.assignB rfl) rfl ?_
    refine WL.nil ?_
    refine WX.thenC ?_
    refine WC.condF rfl ?_
    refine WC.seq ?_
    refine WC.region ?_
    refine WL.val (Val.eql rfl rfl (beq_eq_false_iff_ne.2 (by omega))) rfl ?_
    refine WL.val (Val.assignB rfl) rfl ?_
    refine WL.nil ?_
    refine WX.thenC ?_
    refine WC.condF rfl ?_
    refine WC.seq ?_
    refine WC.region ?_
    refine WL.val (Val.eql rfl rfl (beq_eq_false_iff_ne.2 (by omega))) rfl ?_
    refine WL.val (Val.assignB rfl) rfl ?_
    refine WL.nil ?_
    refine WX.thenC ?_
    refine WC.condF rfl ?_
    refine WC.seq ?_
    refine WC.region ?_
    refine WL.val (Val.eql rfl rfl (beq_eq_false_iff_ne.2 (by omega))) rfl ?_
    refine WL.val (Val.assignB rfl) rfl ?_
    refine WL.nil ?_
    refine WX.thenC ?_
    refine WC.condF rfl ?_
    refine WC.seq ?_
    refine WC.seq ?_
    refine WC.region ?_
    refine WL.val (Val.eql rfl rfl (beq_eq_false_iff_ne.2 (by omega))) rfl ?_
    refine WL.val (Val.assignB rfl) rfl ?_
    refine WL.nil ?_
    refine WX.thenC ?_
    refine WC.condF rfl ?_
    refine WC.region ?_
    refine WL.val (Val.eql rfl rfl rfl) rfl ?_
    refine WL.val (Val.assignB rfl) rfl ?_
    refine WL.nil ?_
    refine WX.thenC ?_
    refine WC.condF rfl ?_
    refine WC.seq ?_
    refine WC.region ?_
    refine WL.val (Val.eql rfl rfl rfl) rfl ?_
    refine WL.val (Val.assignB rfl) rfl ?_
    refine WL.nil ?_
    refine WX.thenC ?_
    refine WC.condT rfl ?_
    refine WC.drawK 999 I [1] rfl (by kernel_rfl) rfl rfl ?_
    refine WA.take 0 rfl (by kernel_rfl) rfl (fun w h => (h.sub [1] rfl)) (Val.fldAddr rfl) rfl ?_
    refine WA.take 1 rfl (by kernel_rfl) rfl (fun w h => (h.sub [1] rfl)) (Val.loadS rfl (Rd.own1 0 rfl rfl)) rfl ?_
    refine WA.take 2 rfl (by kernel_rfl) rfl (fun w h => (h.sub [1] rfl)) (Val.fldAddr rfl) rfl ?_
    refine WA.take 3 rfl (by kernel_rfl) rfl (fun w h => (h.sub [1] rfl)) (Val.loadS rfl (Rd.own1 0 rfl rfl)) rfl ?_
    refine WA.take 4 rfl (by kernel_rfl) rfl (fun w h => (h.sub [1] rfl)) (Val.fldAddr rfl) rfl ?_
    refine WA.take 5 rfl (by kernel_rfl) rfl (fun w h => (h.sub [1] rfl)) (Val.ldO 0 rfl rfl rfl) rfl ?_
    refine WA.take 6 rfl (by kernel_rfl) rfl (fun w h => (h.sub [1] rfl)) (Val.fldAddr rfl) rfl ?_
    refine WA.eff1 (i := 7) (by kernel_rfl) rfl rfl ?_
    refine WL.stI 3 rfl rfl rfl rfl ?_
    refine WL.nil ?_
    refine WK.anyStep (fun w h => (h.sub [1] rfl)) ?_
    refine WA.take 8 rfl (by kernel_rfl) rfl (fun w h => (h.sub [1] rfl)) (Val.fldAddr rfl) rfl ?_
    refine WA.eff1 (i := 9) (by kernel_rfl) rfl rfl ?_
    refine WL.stI 3 rfl rfl rfl rfl ?_
    refine WL.nil ?_
    refine WK.anyStep (fun w h => (h.sub [1] rfl)) ?_
    refine WA.take 10 rfl (by kernel_rfl) rfl (fun w h => (h.sub [1] rfl)) (Val.fldAddr rfl) rfl ?_
    refine WA.eff1 (i := 11) (by kernel_rfl) rfl rfl ?_
    refine WL.stA 3 rfl rfl rfl rfl ?_
    refine WL.nil ?_
    refine WK.anyStep (fun w h => (h.sub [1] rfl)) ?_
    refine WA.done (by kernel_rfl) ?_
    refine WX.inNormal ?_
    refine WX.thenC ?_
    refine WC.seq ?_
    refine WC.region ?_
    refine WL.val (Val.ldO 3 rfl rfl rfl) rfl ?_
    refine WL.stA 2 rfl rfl rfl rfl ?_
    refine WL.nil ?_
    refine WX.thenC ?_
    refine WC.ret ?_
    apply WX.doneP (ks := [])
    case hres => exact RunRes.r1 rfl (ResIs.cellL 2 rfl rfl rfl)
    case hI => first | exact Mem.le.refl _ | assumption
    exact ⟨rfl, rfl, _, _, _, _, _, rfl, ⟨f0, f1, i64_0, i64_0, i64_0, f5, f6, (LsAt.nil _ _), (Atr.z_at I), Sg.z_ok, f10⟩⟩
  by_cases k12 : kind = 12
  · subst k12
    refine WC.seq ?_
    refine WC.region ?_
    (refine WL.boxA rfl rfl ?_; intro _)
    refine WL.nApp ?_
    (refine WL.alloc rfl ?_; intro _)
    refine WL.nApp ?_
    refine WL.nil ?_
    refine WX.thenC ?_
    refine WC.seq ?_
    refine WC.region ?_
    refine WL.val (Val.fldAddr rfl) rfl ?_
    refine WL.val (Val.loadS rfl (Rd.own1 1 rfl rfl)) rfl ?_
    refine WL.val (Val.fldAddr rfl) rfl ?_
    refine WL.val (Val.loadS rfl (Rd.own1 1 rfl rfl)) rfl ?_
    refine WL.val (Val.build (cs := (vi 12 :: vi id :: vi 0 :: vi 0 :: vi 0 :: vi 0 :: vi 0 :: .slice none 0 0 :: vi 0 :: vi 0 :: vi 0 :: vi 0 :: vi 0 :: vi 0 :: vi 0 :: byt 0 :: byt 0 :: byt 0 :: byt 0 :: vi 0 :: vi 0 :: vi 0 :: vi 0 :: .slice none 0 0 :: vi 0 :: byt 0 :: byt 0 :: byt 0 :: byt 0 :: vi 0 :: vi 0 :: vi 0 :: vi 0 :: .slice none 0 0 :: vi 0 :: vi 0 :: vi 0 :: .slice none 0 0 :: vi 0 :: vi 0 :: vi 0 :: .slice none 0 0 :: vi 0 :: vi 0 :: vi 0 :: vi 0 :: vi 0 :: vi 0 :: vi 0 :: vi 0 :: vi 0 :: [])) rfl) rfl ?_
    (refine WL.alloc rfl ?_; intro _)
    refine WL.nApp ?_
    refine WL.stA 3 rfl rfl rfl rfl ?_
    refine WL.nil ?_
    refine WX.thenC ?_
    refine WC.seq ?_
    refine WC.seq ?_
    refine WC.region ?_
    refine WL.val (Val.fldAddr rfl) rfl ?_
    refine WL.val (Val.loadS rfl (Rd.own1 1 rfl rfl)) rfl ?_
    refine WL.nil ?_
    refine WX.thenC ?_
    refine WC.block ?_
    refine WC.seq ?_
    refine WC.region ?_
    refine WL.val (Val.eql rfl rfl (beq_eq_false_iff_ne.2 (by omega))) rfl ?_
    refine WL.val (Val.assignB rfl) rfl ?_
    refine WL.nil ?_
    refine WX.thenC ?_
    refine WC.condF rfl ?_
    refine WC.seq ?_
    refine WC.region ?_
    refine WL.val (Val.eql rfl rfl (beq_eq_false_iff_ne.2 (by omega))) rfl ?_
    refine WL.val (Val.assignB rfl) rfl ?_
    refine WL.nil ?_
    refine WX.thenC ?_
    refine WC.condF rfl ?_
    refine WC.seq ?_
    refine WC.region ?_
    refine WL.val (Val.eql rfl rfl (beq_eq_false_iff_ne.2 (by omega))) rfl ?_
    refine WL.val (Val.assignB rfl) rfl ?_
    refine WL.nil ?_
    refine WX.thenC ?_
    refine WC.condF rfl ?_
    refine WC.seq ?_
    refine WC.region ?_
    refine WL.val (Val.eql rfl rfl (beq_eq_false_iff_ne.2 (by omega))) rfl ?_
    refine WL.val (Val.assignB rfl) rfl ?_
    refine WL.nil ?_
    refine WX.thenC ?_
    refine WC.condF rfl ?_
    refine WC.seq ?_
    refine WC.region ?_
    refine WL.val (Val.eql rfl rfl (beq_eq_false_iff_ne.2 (by omega))) rfl ?_
    refine WL.val (Val.assignB rfl) rfl ?_
    refine WL.nil ?_
    refine WX.thenC ?_
    refine WC.condF rfl ?_
    refine WC.seq ?_
    refine WC.region ?_
    refine WL.val (Val.eql rfl rfl (beq_eq_false_iff_ne.2 (by omega))) rfl ?_
    refine WL.val (Val.assignB rfl) rfl ?_
    refine WL.nil ?_
    refine WX.thenC ?_
    refine WC.condF rfl ?_
    refine WC.seq ?_
    refine WC.region ?_
    refine WL.val (Val.eql rfl rfl (beq_eq_false_iff_ne.2 (by omega))) rfl ?_
    refine WL.val (Val.assignB rfl) rfl ?_
    refine WL.nil ?_
    refine WX.thenC ?_
    refine WC.condF rfl ?_
    refine WC.seq ?_
    refine WC.seq ?_
    refine WC.region ?_
    refine WL.val (Val.eql rfl rfl (beq_eq_false_iff_ne.2 (by omega))) rfl ?_
    refine WL.val (Val.assignB rfl) rfl ?_
    refine WL.nil ?_
    refine WX.thenC ?_
    refine WC.condF rfl ?_
    refine WC.region ?_
    refine WL.val (Val.eql rfl rfl rfl) rfl ?_
    refine WL.val (Val.assignB rfl) rfl ?_
    refine WL.nil ?_
    refine WX.thenC ?_
    refine WC.condT rfl ?_
    refine WC.region ?_
    refine WL.val (Val.fldAddr rfl) rfl ?_
    refine WL.val (Val.loadS rfl (Rd.own1 1 rfl rfl)) rfl ?_
    refine WL.val (Val.fldAddr rfl) rfl ?_
    refine WL.stI 3 rfl rfl rfl rfl ?_
    refine WL.nil ?_
    refine WX.inNormal ?_
    refine WX.thenC ?_
    refine WC.seq ?_
    refine WC.region ?_
    refine WL.val (Val.ldO 3 rfl rfl rfl) rfl ?_
    refine WL.stA 2 rfl rfl rfl rfl ?_
    refine WL.nil ?_
    refine WX.thenC ?_
    refine WC.ret ?_
    apply WX.doneP (ks := [])
    case hres => exact RunRes.r1 rfl (ResIs.cellL 2 rfl rfl rfl)
    case hI => first | exact Mem.le.refl _ | assumption
    exact ⟨rfl, rfl, _, _, _, _, _, rfl, ⟨f0, f1, i64_0, i64_0, i64_0, f5, i64_0, (LsAt.nil _ _), (Atr.z_at I), Sg.z_ok, Pt.z_ok⟩⟩
  refine WC.seq ?_
  refine WC.region ?_
  (refine WL.boxA rfl rfl ?_; intro _)
  refine WL.nApp ?_
  (refine WL.alloc rfl ?_; intro _)
  refine WL.nApp ?_
  refine WL.nil ?_
  refine WX.thenC ?_
  refine WC.seq ?_
  refine WC.region ?_
  refine WL.val (Val.fldAddr rfl) rfl ?_
  refine WL.val (Val.loadS rfl (Rd.own1 1 rfl rfl)) rfl ?_
  refine WL.val (Val.fldAddr rfl) rfl ?_
  refine WL.val (Val.loadS rfl (Rd.own1 1 rfl rfl)) rfl ?_
  refine WL.val (Val.build (cs := (vi kind :: vi id :: vi 0 :: vi 0 :: vi 0 :: vi 0 :: vi 0 :: .slice none 0 0 :: vi 0 :: vi 0 :: vi 0 :: vi 0 :: vi 0 :: vi 0 :: vi 0 :: byt 0 :: byt 0 :: byt 0 :: byt 0 :: vi 0 :: vi 0 :: vi 0 :: vi 0 :: .slice none 0 0 :: vi 0 :: byt 0 :: byt 0 :: byt 0 :: byt 0 :: vi 0 :: vi 0 :: vi 0 :: vi 0 :: .slice none 0 0 :: vi 0 :: vi 0 :: vi 0 :: .slice none 0 0 :: vi 0 :: vi 0 :: vi 0 :: .slice none 0 0 :: vi 0 :: vi 0 :: vi 0 :: vi 0 :: vi 0 :: vi 0 :: vi 0 :: vi 0 :: vi 0 :: [])) rfl) rfl ?_
  (refine WL.alloc rfl ?_; intro _)
  refine WL.nApp ?_
  refine WL.stA 3 rfl rfl rfl rfl ?_
  refine WL.nil ?_
  refine WX.thenC ?_
  refine WC.seq ?_
  refine WC.seq ?_
  refine WC.region ?_
  refine WL.val (Val.fldAddr rfl) rfl ?_
  refine WL.val (Val.loadS rfl (Rd.own1 1 rfl rfl)) rfl ?_
  refine WL.nil ?_
  refine WX.thenC ?_
  refine WC.block ?_
  refine WC.seq ?_
  refine WC.region ?_
  refine WL.val (Val.eql rfl rfl (beq_eq_false_iff_ne.2 (by omega))) rfl ?_
  refine WL.val (Val.assignB rfl) rfl ?_
  refine WL.nil ?_
  refine WX.thenC ?_
  refine WC.condF rfl ?_
  refine WC.seq ?_
  refine WC.region ?_
  refine WL.val (Val.eql rfl rfl (beq_eq_false_iff_ne.2 (by omega))) rfl ?_
  refine WL.val (Val.assignB rfl) rfl ?_
  refine WL.nil ?_
  refine WX.thenC ?_
  refine WC.condF rfl ?_
  refine WC.seq ?_
  refine WC.region ?_
  refine WL.val (Val.eql rfl rfl (beq_eq_false_iff_ne.2 (by omega))) rfl ?_
  refine WL.val (Val.assignB rfl) rfl ?_
  refine WL.nil ?_
  refine WX.thenC ?_
  refine WC.condF rfl ?_
  refine WC.seq ?_
  refine WC.region ?_
  refine WL.val (Val.eql rfl rfl (beq_eq_false_iff_ne.2 (by omega))) rfl ?_
  refine WL.val (Val.assignB rfl) rfl ?_
  refine WL.nil ?_
  refine WX.thenC ?_
  refine WC.condF rfl ?_
  refine WC.seq ?_
  refine WC.region ?_
  refine WL.val (Val.eql rfl rfl (beq_eq_false_iff_ne.2 (by omega))) rfl ?_
  refine WL.val (Val.assignB rfl) rfl ?_
  refine WL.nil ?_
  refine WX.thenC ?_
  refine WC.condF rfl ?_
  refine WC.seq ?_
  refine WC.region ?_
  refine WL.val (Val.eql rfl rfl (beq_eq_false_iff_ne.2 (by omega))) rfl ?_
  refine WL.val (Val.assignB rfl) rfl ?_
  refine WL.nil ?_
  refine WX.thenC ?_
  refine WC.condF rfl ?_
  refine WC.seq ?_
  refine WC.region ?_
  refine WL.val (Val.eql rfl rfl (beq_eq_false_iff_ne.2 (by omega))) rfl ?_
  refine WL.val (Val.assignB rfl) rfl ?_
  refine WL.nil ?_
  refine WX.thenC ?_
  refine WC.condF rfl ?_
  refine WC.seq ?_
  refine WC.seq ?_
  refine WC.region ?_
  refine WL.val (Val.eql rfl rfl (beq_eq_false_iff_ne.2 (by omega))) rfl ?_
  refine WL.val (Val.assignB rfl) rfl ?_
  refine WL.nil ?_
  refine WX.thenC ?_
  refine WC.condF rfl ?_
  refine WC.region ?_
  refine WL.val (Val.eql rfl rfl (beq_eq_false_iff_ne.2 (by omega))) rfl ?_
  refine WL.val (Val.assignB rfl) rfl ?_
  refine WL.nil ?_
  refine WX.thenC ?_
  refine WC.condF rfl ?_
  refine WC.seq ?_
  refine WC.region ?_
  refine WL.val (Val.eql rfl rfl (beq_eq_false_iff_ne.2 (by omega))) rfl ?_
  refine WL.val (Val.assignB rfl) rfl ?_
  refine WL.nil ?_
  refine WX.thenC ?_
  refine WC.condF rfl ?_
  refine WC.skip ?_
  refine WX.inNormal ?_
  refine WX.thenC ?_
  refine WC.seq ?_
  refine WC.region ?_
  refine WL.val (Val.ldO 3 rfl rfl rfl) rfl ?_
  refine WL.stA 2 rfl rfl rfl rfl ?_
  refine WL.nil ?_
  refine WX.thenC ?_
  refine WC.ret ?_
  apply WX.doneP (ks := [])
  case hres => exact RunRes.r1 rfl (ResIs.cellL 2 rfl rfl rfl)
  case hI => first | exact Mem.le.refl _ | assumption
  refine ⟨rfl, rfl, .slice none 0 0, .slice none 0 0, .slice none 0 0, .slice none 0 0, .slice none 0 0, ?_, ?_⟩
  · simp only [Cm.named, k1, k2, k3, k4, k5, k6, k7, k8, k9, k10, k11, k12, if_false]
  · simp only [Cm.named, k1, k2, k3, k4, k5, k6, k7, k8, k9, k10, k11, k12, if_false]
    exact ⟨f0, f1, i64_0, i64_0, i64_0, i64_0, i64_0, (LsAt.nil _ _), (Atr.z_at I), Sg.z_ok, Pt.z_ok⟩
theorem right_ctr (c : Cm) (e t u d q : Value) (I : Mem) (hN : NeedAt I) (hc : c.at_ I e t u d q) :
    Ctr Tryd.prog 11 [.agg (c.cs e t u d q).toArray] I [] (Still I (EqP c.pl)) := by
  have hc0 := hc
  obtain ⟨a0, c0, a1, c1, a2, c2, a3, c3, a4, c4, rfl, rfl, rfl, rfl, rfl⟩ := hc.sl
  refine Ctr.intro Tryd.func11 rfl rfl rfl fun E F => ?_
  by_cases hlo : c.kind < 1
  · skip
    refine WC.seq ?_
    refine WC.region ?_
    (refine WL.boxA rfl rfl ?_; intro _)
    refine WL.nApp ?_
    refine WL.val (Val.assignB rfl) rfl ?_
    refine WL.nil ?_
    refine WX.thenC ?_
    refine WC.seq ?_
    refine WC.seq ?_
    refine WC.drawK 999 I [1] rfl (by kernel_rfl) rfl rfl ?_
    refine WA.take 0 rfl (by kernel_rfl) rfl (fun w h => (h.sub [1] rfl)) (Val.fldAddr rfl) rfl ?_
    refine WA.take 1 rfl (by kernel_rfl) rfl (fun w h => (h.sub [1] rfl)) (Val.loadS rfl (Rd.own1 0 rfl rfl)) rfl ?_
    refine WA.take 2 rfl (by kernel_rfl) rfl (fun w h => (h.sub [1] rfl)) (Val.lss rfl rfl (decide_eq_true (by omega))) rfl ?_
    refine WA.take 3 rfl (by kernel_rfl) rfl (fun w h => (h.sub [1] rfl)) (Val.moveB rfl) rfl ?_
    refine WA.takeGF 4 rfl (by kernel_rfl) rfl (fun w h => (h.sub [1] rfl)) rfl rfl rfl rfl ?_
    refine WA.takeGF 5 rfl (by kernel_rfl) rfl (fun w h => (h.sub [1] rfl)) rfl rfl rfl rfl ?_
    refine WA.takeGF 6 rfl (by kernel_rfl) rfl (fun w h => (h.sub [1] rfl)) rfl rfl rfl rfl ?_
    refine WA.take 7 rfl (by kernel_rfl) rfl (fun w h => (h.sub [1] rfl)) (Val.pick rfl) rfl ?_
    refine WA.take 8 rfl (by kernel_rfl) rfl (fun w h => (h.sub [1] rfl)) (Val.moveB rfl) rfl ?_
    refine WA.takeGF 9 rfl (by kernel_rfl) rfl (fun w h => (h.sub [1] rfl)) rfl rfl rfl rfl ?_
    refine WA.takeGF 10 rfl (by kernel_rfl) rfl (fun w h => (h.sub [1] rfl)) rfl rfl rfl rfl ?_
    refine WA.takeGF 11 rfl (by kernel_rfl) rfl (fun w h => (h.sub [1] rfl)) rfl rfl rfl rfl ?_
    refine WA.takeGF 12 rfl (by kernel_rfl) rfl (fun w h => (h.sub [1] rfl)) rfl rfl rfl rfl ?_
    refine WA.takeGF 13 rfl (by kernel_rfl) rfl (fun w h => (h.sub [1] rfl)) rfl rfl rfl rfl ?_
    refine WA.take 14 rfl (by kernel_rfl) rfl (fun w h => (h.sub [1] rfl)) (Val.pick rfl) rfl ?_
    refine WA.done (by kernel_rfl) ?_
    refine WX.thenC ?_
    refine WC.condT rfl ?_
    refine WC.seq ?_
    refine WC.region ?_
    refine WL.val (Val.assignB rfl) rfl ?_
    refine WL.nil ?_
    refine WX.thenC ?_
    refine WC.ret ?_
    refine WX.thenRet ?_
    apply WX.doneP (ks := [])
    case hres => exact RunRes.r1 rfl (ResIs.tmpB rfl)
    case hI => first | exact Mem.le.refl _ | assumption
    exact ⟨rfl, rfl, EqP.f fun e => by have := e.1; omega⟩
  by_cases hhi : 12 < c.kind
  · skip
    refine WC.seq ?_
    refine WC.region ?_
    (refine WL.boxA rfl rfl ?_; intro _)
    refine WL.nApp ?_
    refine WL.val (Val.assignB rfl) rfl ?_
    refine WL.nil ?_
    refine WX.thenC ?_
    refine WC.seq ?_
    refine WC.seq ?_
    refine WC.drawK 999 I [1] rfl (by kernel_rfl) rfl rfl ?_
    refine WA.take 0 rfl (by kernel_rfl) rfl (fun w h => (h.sub [1] rfl)) (Val.fldAddr rfl) rfl ?_
    refine WA.take 1 rfl (by kernel_rfl) rfl (fun w h => (h.sub [1] rfl)) (Val.loadS rfl (Rd.own1 0 rfl rfl)) rfl ?_
    refine WA.take 2 rfl (by kernel_rfl) rfl (fun w h => (h.sub [1] rfl)) (Val.lss rfl rfl (decide_eq_false (by omega))) rfl ?_
    refine WA.take 3 rfl (by kernel_rfl) rfl (fun w h => (h.sub [1] rfl)) (Val.moveB rfl) rfl ?_
    refine WA.takeGT 4 rfl (by kernel_rfl) rfl (fun w h => (h.sub [1] rfl)) rfl rfl (Val.fldAddr rfl) rfl ?_
    refine WA.takeGT 5 rfl (by kernel_rfl) rfl (fun w h => (h.sub [1] rfl)) rfl rfl (Val.loadS rfl (Rd.own1 0 rfl rfl)) rfl ?_
    refine WA.takeGT 6 rfl (by kernel_rfl) rfl (fun w h => (h.sub [1] rfl)) rfl rfl (Val.gtr rfl rfl (decide_eq_true (by omega))) rfl ?_
    refine WA.take 7 rfl (by kernel_rfl) rfl (fun w h => (h.sub [1] rfl)) (Val.pick rfl) rfl ?_
    refine WA.take 8 rfl (by kernel_rfl) rfl (fun w h => (h.sub [1] rfl)) (Val.moveB rfl) rfl ?_
    refine WA.takeGF 9 rfl (by kernel_rfl) rfl (fun w h => (h.sub [1] rfl)) rfl rfl rfl rfl ?_
    refine WA.takeGF 10 rfl (by kernel_rfl) rfl (fun w h => (h.sub [1] rfl)) rfl rfl rfl rfl ?_
    refine WA.takeGF 11 rfl (by kernel_rfl) rfl (fun w h => (h.sub [1] rfl)) rfl rfl rfl rfl ?_
    refine WA.takeGF 12 rfl (by kernel_rfl) rfl (fun w h => (h.sub [1] rfl)) rfl rfl rfl rfl ?_
    refine WA.takeGF 13 rfl (by kernel_rfl) rfl (fun w h => (h.sub [1] rfl)) rfl rfl rfl rfl ?_
    refine WA.take 14 rfl (by kernel_rfl) rfl (fun w h => (h.sub [1] rfl)) (Val.pick rfl) rfl ?_
    refine WA.done (by kernel_rfl) ?_
    refine WX.thenC ?_
    refine WC.condT rfl ?_
    refine WC.seq ?_
    refine WC.region ?_
    refine WL.val (Val.assignB rfl) rfl ?_
    refine WL.nil ?_
    refine WX.thenC ?_
    refine WC.ret ?_
    refine WX.thenRet ?_
    apply WX.doneP (ks := [])
    case hres => exact RunRes.r1 rfl (ResIs.tmpB rfl)
    case hI => first | exact Mem.le.refl _ | assumption
    exact ⟨rfl, rfl, EqP.f fun e => by have := e.2.1; omega⟩
  refine WC.seq ?_
  refine WC.region ?_
  (refine WL.boxA rfl rfl ?_; intro _)
  refine WL.nApp ?_
  refine WL.val (Val.assignB rfl) rfl ?_
  refine WL.nil ?_
  refine WX.thenC ?_
  refine WC.seq ?_
  refine WC.seq ?_
  refine WC.drawK 999 I [1] rfl (by kernel_rfl) rfl rfl ?_
  refine WA.take 0 rfl (by kernel_rfl) rfl (fun w h => (h.sub [1] rfl)) (Val.fldAddr rfl) rfl ?_
  refine WA.take 1 rfl (by kernel_rfl) rfl (fun w h => (h.sub [1] rfl)) (Val.loadS rfl (Rd.own1 0 rfl rfl)) rfl ?_
  refine WA.take 2 rfl (by kernel_rfl) rfl (fun w h => (h.sub [1] rfl)) (Val.lss rfl rfl (decide_eq_false (by omega))) rfl ?_
  refine WA.take 3 rfl (by kernel_rfl) rfl (fun w h => (h.sub [1] rfl)) (Val.moveB rfl) rfl ?_
  refine WA.takeGT 4 rfl (by kernel_rfl) rfl (fun w h => (h.sub [1] rfl)) rfl rfl (Val.fldAddr rfl) rfl ?_
  refine WA.takeGT 5 rfl (by kernel_rfl) rfl (fun w h => (h.sub [1] rfl)) rfl rfl (Val.loadS rfl (Rd.own1 0 rfl rfl)) rfl ?_
  refine WA.takeGT 6 rfl (by kernel_rfl) rfl (fun w h => (h.sub [1] rfl)) rfl rfl (Val.gtr rfl rfl (decide_eq_false (by omega))) rfl ?_
  refine WA.take 7 rfl (by kernel_rfl) rfl (fun w h => (h.sub [1] rfl)) (Val.pick rfl) rfl ?_
  refine WA.take 8 rfl (by kernel_rfl) rfl (fun w h => (h.sub [1] rfl)) (Val.moveB rfl) rfl ?_
  refine WA.takeGT 9 rfl (by kernel_rfl) rfl (fun w h => (h.sub [1] rfl)) rfl rfl (Val.ldO 0 rfl rfl rfl) rfl ?_
  refine WA.takeGT 11 rfl (by kernel_rfl) rfl (fun w h => (h.sub [1] rfl)) rfl rfl (Val.ldO 0 rfl rfl rfl) rfl ?_
  refine WA.eff1 (i := 10) (by kernel_rfl) rfl rfl ?_
  refine WL.gT rfl rfl ?_
  refine WL.callS rfl rfl (named_ctr c _ _ _ _ _ I hc) rfl ?_
  rintro _ ⟨e', t', u', d', q', rfl, hn⟩
  refine WL.nil ?_
  refine WK.anyStep (fun w h => (h.sub [1] rfl)) ?_
  refine WA.eff1 (i := 12) (by kernel_rfl) rfl rfl ?_
  refine WL.gT rfl rfl ?_
  refine WL.callE rfl rfl (eqCm c.named c _ _ _ _ _ _ _ _ _ _ I hn hc) rfl (fun hs => ?_) (fun hs => ?_)
  · skip
    refine WL.nil ?_
    refine WK.anyStep (fun w h => (h.sub [1] rfl)) ?_
    refine WA.takeGT 13 rfl (by kernel_rfl) rfl (fun w h => (h.sub [1] rfl)) rfl rfl (Val.not rfl) rfl ?_
    refine WA.take 14 rfl (by kernel_rfl) rfl (fun w h => (h.sub [1] rfl)) (Val.pick rfl) rfl ?_
    refine WA.done (by kernel_rfl) ?_
    by_cases k1 : c.kind = 1
    · have hpl : c.plK = entsPl c.ents := by simp only [Cm.plK, k1]; rfl
      refine WX.thenC ?_
      refine WC.condF rfl ?_
      refine WC.skip ?_
      refine WX.thenC ?_
      refine WC.seq ?_
      refine WC.seq ?_
      refine WC.region ?_
      refine WL.val (Val.fldAddr rfl) rfl ?_
      refine WL.val (Val.loadS rfl (Rd.own1 1 rfl rfl)) rfl ?_
      refine WL.nil ?_
      refine WX.thenC ?_
      refine WC.block ?_
      refine WC.seq ?_
      refine WC.region ?_
      refine WL.val (Val.eql rfl rfl (beq_iff_eq.2 (by omega))) rfl ?_
      refine WL.val (Val.assignB rfl) rfl ?_
      refine WL.nil ?_
      refine WX.thenC ?_
      refine WC.condT rfl ?_
      refine WC.seq ?_
      refine WC.region ?_
      refine WL.val (Val.fldAddr rfl) rfl ?_
      refine WL.val (Val.loadS rfl (Rd.own1 1 rfl rfl)) rfl ?_
      refine WL.callE rfl rfl (plainEntries_ctr c.ents _ _ hN hc.ents) rfl (fun h => ?_) (fun h => ?_)
      · skip
        refine WL.val (Val.assignB rfl) rfl ?_
        refine WL.nil ?_
        refine WX.thenC ?_
        refine WC.ret ?_
        refine WX.inRet ?_
        refine WX.thenRet ?_
        apply WX.doneP (ks := [])
        case hres => exact RunRes.r1 rfl (ResIs.tmpB rfl)
        case hI => first | exact Mem.le.refl _ | assumption
        exact ⟨rfl, rfl, EqP.t ⟨by omega, by omega, hs, hpl ▸ h⟩⟩
      · skip
        refine WL.val (Val.assignB rfl) rfl ?_
        refine WL.nil ?_
        refine WX.thenC ?_
        refine WC.ret ?_
        refine WX.inRet ?_
        refine WX.thenRet ?_
        apply WX.doneP (ks := [])
        case hres => exact RunRes.r1 rfl (ResIs.tmpB rfl)
        case hI => first | exact Mem.le.refl _ | assumption
        exact ⟨rfl, rfl, EqP.f fun e => h (hpl ▸ e.2.2.2)⟩
    by_cases k4 : c.kind = 4
    · have hpl : c.plK = c.atr.pl := by simp only [Cm.plK, k4]; rfl
      refine WX.thenC ?_
      refine WC.condF rfl ?_
      refine WC.skip ?_
      refine WX.thenC ?_
      refine WC.seq ?_
      refine WC.seq ?_
      refine WC.region ?_
      refine WL.val (Val.fldAddr rfl) rfl ?_
      refine WL.val (Val.loadS rfl (Rd.own1 1 rfl rfl)) rfl ?_
      refine WL.nil ?_
      refine WX.thenC ?_
      refine WC.block ?_
      refine WC.seq ?_
      refine WC.region ?_
      refine WL.val (Val.eql rfl rfl (beq_eq_false_iff_ne.2 (by omega))) rfl ?_
      refine WL.val (Val.assignB rfl) rfl ?_
      refine WL.nil ?_
      refine WX.thenC ?_
      refine WC.condF rfl ?_
      refine WC.seq ?_
      refine WC.region ?_
      refine WL.val (Val.eql rfl rfl (beq_iff_eq.2 (by omega))) rfl ?_
      refine WL.val (Val.assignB rfl) rfl ?_
      refine WL.nil ?_
      refine WX.thenC ?_
      refine WC.condT rfl ?_
      refine WC.seq ?_
      refine WC.region ?_
      refine WL.val (Val.fldAddr rfl) rfl ?_
      refine WL.val (Val.ldO 1 rfl rfl rfl) rfl ?_
      refine WL.callE rfl rfl (plainAttr_ctr c.atr _ _ _ _ _ hN hc.atr) rfl (fun h => ?_) (fun h => ?_)
      · skip
        refine WL.val (Val.assignB rfl) rfl ?_
        refine WL.nil ?_
        refine WX.thenC ?_
        refine WC.ret ?_
        refine WX.inRet ?_
        refine WX.thenRet ?_
        apply WX.doneP (ks := [])
        case hres => exact RunRes.r1 rfl (ResIs.tmpB rfl)
        case hI => first | exact Mem.le.refl _ | assumption
        exact ⟨rfl, rfl, EqP.t ⟨by omega, by omega, hs, hpl ▸ h⟩⟩
      · skip
        refine WL.val (Val.assignB rfl) rfl ?_
        refine WL.nil ?_
        refine WX.thenC ?_
        refine WC.ret ?_
        refine WX.inRet ?_
        refine WX.thenRet ?_
        apply WX.doneP (ks := [])
        case hres => exact RunRes.r1 rfl (ResIs.tmpB rfl)
        case hI => first | exact Mem.le.refl _ | assumption
        exact ⟨rfl, rfl, EqP.f fun e => h (hpl ▸ e.2.2.2)⟩
    by_cases k7 : c.kind = 7
    · have hpl : c.plK = c.atr.sty.pl := by simp only [Cm.plK, k7]; rfl
      refine WX.thenC ?_
      refine WC.condF rfl ?_
      refine WC.skip ?_
      refine WX.thenC ?_
      refine WC.seq ?_
      refine WC.seq ?_
      refine WC.region ?_
      refine WL.val (Val.fldAddr rfl) rfl ?_
      refine WL.val (Val.loadS rfl (Rd.own1 1 rfl rfl)) rfl ?_
      refine WL.nil ?_
      refine WX.thenC ?_
      refine WC.block ?_
      refine WC.seq ?_
      refine WC.region ?_
      refine WL.val (Val.eql rfl rfl (beq_eq_false_iff_ne.2 (by omega))) rfl ?_
      refine WL.val (Val.assignB rfl) rfl ?_
      refine WL.nil ?_
      refine WX.thenC ?_
      refine WC.condF rfl ?_
      refine WC.seq ?_
      refine WC.region ?_
      refine WL.val (Val.eql rfl rfl (beq_eq_false_iff_ne.2 (by omega))) rfl ?_
      refine WL.val (Val.assignB rfl) rfl ?_
      refine WL.nil ?_
      refine WX.thenC ?_
      refine WC.condF rfl ?_
      refine WC.seq ?_
      refine WC.region ?_
      refine WL.val (Val.eql rfl rfl (beq_iff_eq.2 (by omega))) rfl ?_
      refine WL.val (Val.assignB rfl) rfl ?_
      refine WL.nil ?_
      refine WX.thenC ?_
      refine WC.condT rfl ?_
      refine WC.seq ?_
      refine WC.region ?_
      refine WL.val (Val.fldAddr rfl) rfl ?_
      refine WL.val (Val.fldAddr rfl) rfl ?_
      refine WL.val (Val.ldO 1 rfl rfl rfl) rfl ?_
      refine WL.callE rfl rfl (plainStyle_ctr c.atr.sty _ _ _ _ hc.atr.sty) rfl (fun h => ?_) (fun h => ?_)
      · skip
        refine WL.val (Val.assignB rfl) rfl ?_
        refine WL.nil ?_
        refine WX.thenC ?_
        refine WC.ret ?_
        refine WX.inRet ?_
        refine WX.thenRet ?_
        apply WX.doneP (ks := [])
        case hres => exact RunRes.r1 rfl (ResIs.tmpB rfl)
        case hI => first | exact Mem.le.refl _ | assumption
        exact ⟨rfl, rfl, EqP.t ⟨by omega, by omega, hs, hpl ▸ h⟩⟩
      · skip
        refine WL.val (Val.assignB rfl) rfl ?_
        refine WL.nil ?_
        refine WX.thenC ?_
        refine WC.ret ?_
        refine WX.inRet ?_
        refine WX.thenRet ?_
        apply WX.doneP (ks := [])
        case hres => exact RunRes.r1 rfl (ResIs.tmpB rfl)
        case hI => first | exact Mem.le.refl _ | assumption
        exact ⟨rfl, rfl, EqP.f fun e => h (hpl ▸ e.2.2.2)⟩
    by_cases k8 : c.kind = 8
    · have hpl : c.plK = pathPl c.atr.path := by simp only [Cm.plK, k8]; rfl
      refine WX.thenC ?_
      refine WC.condF rfl ?_
      refine WC.skip ?_
      refine WX.thenC ?_
      refine WC.seq ?_
      refine WC.seq ?_
      refine WC.region ?_
      refine WL.val (Val.fldAddr rfl) rfl ?_
      refine WL.val (Val.loadS rfl (Rd.own1 1 rfl rfl)) rfl ?_
      refine WL.nil ?_
      refine WX.thenC ?_
      refine WC.block ?_
      refine WC.seq ?_
      refine WC.region ?_
      refine WL.val (Val.eql rfl rfl (beq_eq_false_iff_ne.2 (by omega))) rfl ?_
      refine WL.val (Val.assignB rfl) rfl ?_
      refine WL.nil ?_
      refine WX.thenC ?_
      refine WC.condF rfl ?_
      refine WC.seq ?_
      refine WC.region ?_
      refine WL.val (Val.eql rfl rfl (beq_eq_false_iff_ne.2 (by omega))) rfl ?_
      refine WL.val (Val.assignB rfl) rfl ?_
      refine WL.nil ?_
      refine WX.thenC ?_
      refine WC.condF rfl ?_
      refine WC.seq ?_
      refine WC.region ?_
      refine WL.val (Val.eql rfl rfl (beq_eq_false_iff_ne.2 (by omega))) rfl ?_
      refine WL.val (Val.assignB rfl) rfl ?_
      refine WL.nil ?_
      refine WX.thenC ?_
      refine WC.condF rfl ?_
      refine WC.seq ?_
      refine WC.region ?_
      refine WL.val (Val.eql rfl rfl (beq_iff_eq.2 (by omega))) rfl ?_
      refine WL.val (Val.assignB rfl) rfl ?_
      refine WL.nil ?_
      refine WX.thenC ?_
      refine WC.condT rfl ?_
      refine WC.seq ?_
      refine WC.region ?_
      refine WL.val (Val.fldAddr rfl) rfl ?_
      refine WL.val (Val.fldAddr rfl) rfl ?_
      refine WL.val (Val.loadS rfl (Rd.own1 1 rfl rfl)) rfl ?_
      refine WL.callE rfl rfl (plainPath_ctr c.atr.path _ _ hN hc.atr.path) rfl (fun h => ?_) (fun h => ?_)
      · skip
        refine WL.val (Val.assignB rfl) rfl ?_
        refine WL.nil ?_
        refine WX.thenC ?_
        refine WC.ret ?_
        refine WX.inRet ?_
        refine WX.thenRet ?_
        apply WX.doneP (ks := [])
        case hres => exact RunRes.r1 rfl (ResIs.tmpB rfl)
        case hI => first | exact Mem.le.refl _ | assumption
        exact ⟨rfl, rfl, EqP.t ⟨by omega, by omega, hs, hpl ▸ h⟩⟩
      · skip
        refine WL.val (Val.assignB rfl) rfl ?_
        refine WL.nil ?_
        refine WX.thenC ?_
        refine WC.ret ?_
        refine WX.inRet ?_
        refine WX.thenRet ?_
        apply WX.doneP (ks := [])
        case hres => exact RunRes.r1 rfl (ResIs.tmpB rfl)
        case hI => first | exact Mem.le.refl _ | assumption
        exact ⟨rfl, rfl, EqP.f fun e => h (hpl ▸ e.2.2.2)⟩
    by_cases k9 : c.kind = 9
    · have hpl : c.plK = c.seg.pl := by simp only [Cm.plK, k9]; rfl
      refine WX.thenC ?_
      refine WC.condF rfl ?_
      refine WC.skip ?_
      refine WX.thenC ?_
      refine WC.seq ?_
      refine WC.seq ?_
      refine WC.region ?_
      refine WL.val (Val.fldAddr rfl) rfl ?_
      refine WL.val (Val.loadS rfl (Rd.own1 1 rfl rfl)) rfl ?_
      refine WL.nil ?_
      refine WX.thenC ?_
      refine WC.block ?_
      refine WC.seq ?_
      refine WC.region ?_
      refine WL.val (Val.eql rfl rfl (beq_eq_false_iff_ne.2 (by omega))) rfl ?_
      refine WL.val (Val.assignB rfl) rfl ?_
      refine WL.nil ?_
      refine WX.thenC ?_
      refine WC.condF rfl ?_
      refine WC.seq ?_
      refine WC.region ?_
      refine WL.val (Val.eql rfl rfl (beq_eq_false_iff_ne.2 (by omega))) rfl ?_
      refine WL.val (Val.assignB rfl) rfl ?_
      refine WL.nil ?_
      refine WX.thenC ?_
      refine WC.condF rfl ?_
      refine WC.seq ?_
      refine WC.region ?_
      refine WL.val (Val.eql rfl rfl (beq_eq_false_iff_ne.2 (by omega))) rfl ?_
      refine WL.val (Val.assignB rfl) rfl ?_
      refine WL.nil ?_
      refine WX.thenC ?_
      refine WC.condF rfl ?_
      refine WC.seq ?_
      refine WC.region ?_
      refine WL.val (Val.eql rfl rfl (beq_eq_false_iff_ne.2 (by omega))) rfl ?_
      refine WL.val (Val.assignB rfl) rfl ?_
      refine WL.nil ?_
      refine WX.thenC ?_
      refine WC.condF rfl ?_
      refine WC.seq ?_
      refine WC.region ?_
      refine WL.val (Val.eql rfl rfl (beq_iff_eq.2 (by omega))) rfl ?_
      refine WL.val (Val.assignB rfl) rfl ?_
      refine WL.nil ?_
      refine WX.thenC ?_
      refine WC.condT rfl ?_
      refine WC.seq ?_
      refine WC.region ?_
      refine WL.val (Val.fldAddr rfl) rfl ?_
      refine WL.val (Val.ldO 1 rfl rfl rfl) rfl ?_
      refine WL.callE rfl rfl (plainSeg_ctr c.seg _ hN) rfl (fun h => ?_) (fun h => ?_)
      · skip
        refine WL.val (Val.assignB rfl) rfl ?_
        refine WL.nil ?_
        refine WX.thenC ?_
        refine WC.ret ?_
        refine WX.inRet ?_
        refine WX.thenRet ?_
        apply WX.doneP (ks := [])
        case hres => exact RunRes.r1 rfl (ResIs.tmpB rfl)
        case hI => first | exact Mem.le.refl _ | assumption
        exact ⟨rfl, rfl, EqP.t ⟨by omega, by omega, hs, hpl ▸ h⟩⟩
      · skip
        refine WL.val (Val.assignB rfl) rfl ?_
        refine WL.nil ?_
        refine WX.thenC ?_
        refine WC.ret ?_
        refine WX.inRet ?_
        refine WX.thenRet ?_
        apply WX.doneP (ks := [])
        case hres => exact RunRes.r1 rfl (ResIs.tmpB rfl)
        case hI => first | exact Mem.le.refl _ | assumption
        exact ⟨rfl, rfl, EqP.f fun e => h (hpl ▸ e.2.2.2)⟩
    refine WX.thenC ?_
    refine WC.condF rfl ?_
    refine WC.skip ?_
    refine WX.thenC ?_
    refine WC.seq ?_
    refine WC.seq ?_
    refine WC.region ?_
    refine WL.val (Val.fldAddr rfl) rfl ?_
    refine WL.val (Val.loadS rfl (Rd.own1 1 rfl rfl)) rfl ?_
    refine WL.nil ?_
    refine WX.thenC ?_
    refine WC.block ?_
    refine WC.seq ?_
    refine WC.region ?_
    refine WL.val (Val.eql rfl rfl (beq_eq_false_iff_ne.2 (by omega))) rfl ?_
    refine WL.val (Val.assignB rfl) rfl ?_
    refine WL.nil ?_
    refine WX.thenC ?_
    refine WC.condF rfl ?_
    refine WC.seq ?_
    refine WC.region ?_
    refine WL.val (Val.eql rfl rfl (beq_eq_false_iff_ne.2 (by omega))) rfl ?_
    refine WL.val (Val.assignB rfl) rfl ?_
    refine WL.nil ?_
    refine WX.thenC ?_
    refine WC.condF rfl ?_
    refine WC.seq ?_
    refine WC.region ?_
    refine WL.val (Val.eql rfl rfl (beq_eq_false_iff_ne.2 (by omega))) rfl ?_
    refine WL.val (Val.assignB rfl) rfl ?_
    refine WL.nil ?_
    refine WX.thenC ?_
    refine WC.condF rfl ?_
    refine WC.seq ?_
    refine WC.region ?_
    refine WL.val (Val.eql rfl rfl (beq_eq_false_iff_ne.2 (by omega))) rfl ?_
    refine WL.val (Val.assignB rfl) rfl ?_
    refine WL.nil ?_
    refine WX.thenC ?_
    refine WC.condF rfl ?_
    refine WC.seq ?_
    refine WC.region ?_
    refine WL.val (Val.eql rfl rfl (beq_eq_false_iff_ne.2 (by omega))) rfl ?_
    refine WL.val (Val.assignB rfl) rfl ?_
    refine WL.nil ?_
    refine WX.thenC ?_
    refine WC.condF rfl ?_
    refine WC.skip ?_
    refine WX.inNormal ?_
    refine WX.thenC ?_
    refine WC.seq ?_
    refine WC.region ?_
    refine WL.val (Val.assignB rfl) rfl ?_
    refine WL.nil ?_
    refine WX.thenC ?_
    refine WC.ret ?_
    apply WX.doneP (ks := [])
    case hres => exact RunRes.r1 rfl (ResIs.tmpB rfl)
    case hI => first | exact Mem.le.refl _ | assumption
    refine ⟨rfl, rfl, EqP.t ⟨by omega, by omega, hs, ?_⟩⟩
    simp only [Cm.plK, k1, k4, k7, k8, k9, if_false]
  · skip
    refine WL.nil ?_
    refine WK.anyStep (fun w h => (h.sub [1] rfl)) ?_
    refine WA.takeGT 13 rfl (by kernel_rfl) rfl (fun w h => (h.sub [1] rfl)) rfl rfl (Val.not rfl) rfl ?_
    refine WA.take 14 rfl (by kernel_rfl) rfl (fun w h => (h.sub [1] rfl)) (Val.pick rfl) rfl ?_
    refine WA.done (by kernel_rfl) ?_
    refine WX.thenC ?_
    refine WC.condT rfl ?_
    refine WC.seq ?_
    refine WC.region ?_
    refine WL.val (Val.assignB rfl) rfl ?_
    refine WL.nil ?_
    refine WX.thenC ?_
    refine WC.ret ?_
    refine WX.thenRet ?_
    apply WX.doneP (ks := [])
    case hres => exact RunRes.r1 rfl (ResIs.tmpB rfl)
    case hI => first | exact Mem.le.refl _ | assumption
    exact ⟨rfl, rfl, EqP.f fun e => hs e.2.2.1⟩
end Go.Proofs.YtfdeckdongonnaaDoor
