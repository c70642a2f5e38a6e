/-
  Code, the walks: the document's bytes (3): entries, commands.
-/
import Derived.Test.YtfdeckdongonnaaDoorC27
import Derived.Test.YtfdeckdongonnaaDoorSepH
namespace Go.Proofs.YtfdeckdongonnaaDoor
open Go.Sl Go.Cd
set_option maxRecDepth 100000
set_option maxHeartbeats 8000000
set_option linter.unusedVariables false
attribute [local irreducible] WC WL WX WK WA WAK Val Ctr RunRes ResIs Rd At sl box pt Exit.then Exit.inBlock bodyPost Code.wp wpList
theorem entsB (l : List Ent) (v : Value) (I : Mem) (hN : NeedAt I) (hv : LsAt Ent.rep I l v) (hp : entsPl l) (hl : (lw Ent.w l).length ≤ 1099511627776) :
    Ctr Tryd.prog 22 [v] I [] (OwnB (lw Ent.w l)) := by
  obtain ⟨a1, q1, rfl⟩ := hv.sl
  have hw : lw Ent.w l = (eInts [(l.length : Int)] ++ lk Ent.w l l.length) := by simp [lw, lk_all, eInts_one]
  rw [hw] at hl ⊢
  have hB : ∀ k, (eInts [(l.length : Int)] ++ lk Ent.w l k).length ≤ 1099511627776 := fun k => by
    have h1 := lk_le Ent.w l k
    rw [← lk_all] at h1
    simp only [List.length_append] at hl ⊢
    omega
  have hlen := list_len Ent.w Ent.w_pos l
  have hb0 := hB l.length
  rw [← lk_all] at hlen
  simp only [List.length_append] at hb0
  refine Ctr.intro Tryd.func22 rfl rfl rfl fun E F => ?_
  refine WC.seq ?_
  refine WC.region ?_
  refine WL.val (Val.assignS rfl) rfl ?_
  refine WL.nil ?_
  refine WX.thenC ?_
  refine WC.seq ?_
  refine WC.region ?_
  refine WL.val (Val.moveS rfl) rfl ?_
  refine WL.val (Val.len rfl) rfl ?_
  (refine WL.buildSlice (by with_unfolding_all exact rfl) rfl (by with_unfolding_all exact rfl) rfl ?_; intro _)
  refine WL.nApp ?_
  rename_i g10
  refine WL.freezeBox (xs := [vi l.length]) 1 rfl fun I10 hI10 hA10 => ?_
  refine WL.callB rfl rfl (rInts [(l.length : Int)] (.slice (some ⟨g10, 0, none⟩) 1 1) _ (litInts [(l.length : Int)] hA10 ⟨⟨by omega, by omega⟩, trivial⟩) (by omega)) rfl fun a2 q2 I11 hI11 => ?_
  have hI := hI10.trans hI11
  refine WL.nApp ?_
  refine WL.val (Val.assignS rfl) rfl ?_
  refine WL.nil ?_
  refine WX.thenC ?_
  refine WC.seq ?_
  refine WC.seq ?_
  refine WC.region ?_
  refine WL.val (Val.moveS rfl) rfl ?_
  refine WL.val (Val.len rfl) rfl ?_
  refine WL.val (Val.moveI rfl) rfl ?_
  refine WL.nil ?_
  refine WX.thenC ?_
  refine WC.block ?_
  refine WC.loop (fun n ρ' I' L' => ∃ k : Nat, ∃ a cap, n = l.length - k ∧ k ≤ l.length ∧ I.le I' ∧ ρ' 3 = .slice a (eInts [(l.length : Int)] ++ lk Ent.w l k).length cap ∧ ρ' 11 = .slice a1 l.length q1 ∧ ρ' 12 = vi l.length ∧ ρ' 13 = vi k ∧
      L' = [F, sl 5 1 (.slice a (eInts [(l.length : Int)] ++ lk Ent.w l k).length cap) (eInts [(l.length : Int)] ++ lk Ent.w l k).length ((eInts [(l.length : Int)] ++ lk Ent.w l k).map byt)])
    l.length ⟨0, _, _, rfl, by omega, hI, by rw [lk_zero, List.append_nil]; rfl, rfl, rfl, rfl, by rw [lk_zero, List.append_nil]⟩ ?_
  rintro n ρ' I5 L' ⟨k, a5, q5, rfl, hkl, hI5, h3, h11, h12, h13, rfl⟩
  rw [← upd_self h13, ← upd_self h12, ← upd_self h11, ← upd_self h3]
  clear h13 h12 h11 h3
  by_cases hkn : k < l.length
  · obtain ⟨b, off, cap', cs, he, ⟨t1, t2, t3, t4, rfl, hi⟩, hA⟩ := (hv.mono hI5).get k hkn
    cases he
    have hpx := hp l[k] (List.getElem_mem hkn)
    have hs2 : (eInts [(l.length : Int)] ++ lk Ent.w l (k + 1)) = (eInts [(l.length : Int)] ++ lk Ent.w l k) ++ l[k].w := by rw [lk_succ Ent.w l k hkn]; simp
    have hb1 := hB (k + 1)
    rw [hs2] at hb1
    generalize hx : l[k] = x at *
    obtain ⟨b1, r1, b2, r2, b3, r3, b4, r4, rfl, rfl, rfl, rfl⟩ := hi.sl
    obtain ⟨id, grp, kids, atr⟩ := x
    cases grp
    · have hs3 : (⟨id, false, kids, atr⟩ : Ent).w = eInts [id, 0, kids] ++ atr.w := by simp [Ent.w, eInts]
      rw [hs3] at hb1 hs2
      rw [← List.append_assoc] at hs2
      simp only [List.length_append] at hb1
      refine WC.seq ?_
      refine WC.region ?_
      refine WL.val (Val.lss rfl rfl (decide_eq_true (by omega))) rfl ?_
      refine WL.nil ?_
      refine WX.thenC ?_
      refine WC.seq ?_
      refine WC.condT rfl ?_
      refine WC.skip ?_
      refine WX.thenC ?_
      refine WC.seq ?_
      refine WC.block ?_
      refine WC.seq ?_
      refine WC.region ?_
      refine WL.val (Val.indexAddr rfl rfl (by omega) (by omega)) rfl ?_
      refine WL.val (Val.loadI rfl (by assumption) rfl) rfl ?_
      (refine WL.alloc rfl ?_; intro _)
      refine WL.nApp ?_
      refine WL.stA 2 rfl rfl rfl rfl ?_
      refine WL.nil ?_
      refine WX.thenC ?_
      refine WC.seq ?_
      refine WC.region ?_
      refine WL.val (Val.assignI rfl) rfl ?_
      refine WL.nil ?_
      refine WX.thenC ?_
      refine WC.seq ?_
      refine WC.seq ?_
      refine WC.region ?_
      refine WL.val (Val.fldAddr rfl) rfl ?_
      refine WL.val (Val.loadS rfl (Rd.own1 2 rfl rfl)) rfl ?_
      refine WL.nil ?_
      refine WX.thenC ?_
      refine WC.condF rfl ?_
      refine WC.skip ?_
      refine WX.thenC ?_
      refine WC.drawK 999 I5 [2] rfl (by kernel_rfl) rfl rfl ?_
      refine WA.take 0 rfl (by kernel_rfl) rfl (fun w h => (h.sub [2] rfl)) (Val.moveS rfl) rfl ?_
      refine WA.take 1 rfl (by kernel_rfl) rfl (fun w h => (h.sub [2] rfl)) (Val.fldAddr rfl) rfl ?_
      refine WA.take 2 rfl (by kernel_rfl) rfl (fun w h => (h.sub [2] rfl)) (Val.loadS rfl (Rd.own1 0 rfl rfl)) rfl ?_
      refine WA.take 3 rfl (by kernel_rfl) rfl (fun w h => (h.sub [2] rfl)) (Val.moveI rfl) rfl ?_
      refine WA.take 4 rfl (by kernel_rfl) rfl (fun w h => (h.sub [2] rfl)) (Val.fldAddr rfl) rfl ?_
      refine WA.take 5 rfl (by kernel_rfl) rfl (fun w h => (h.sub [2] rfl)) (Val.loadS rfl (Rd.own1 0 rfl rfl)) rfl ?_
      refine WA.take 9 rfl (by kernel_rfl) rfl (fun w h => (h.sub [2] rfl)) (Val.fldAddr rfl) rfl ?_
      refine WA.take 10 rfl (by kernel_rfl) rfl (fun w h => (h.sub [2] rfl)) (Val.ldO 0 rfl rfl rfl) rfl ?_
      refine WA.eff1 (i := 6) (by kernel_rfl) rfl rfl ?_
      (refine WL.buildSlice (by with_unfolding_all exact rfl) rfl (by with_unfolding_all exact rfl) rfl ?_; intro _)
      rename_i g30
      refine WL.nApp ?_
      refine WL.freezeBox (xs := [vi id, vi 0, vi kids]) 3 rfl fun I30 hI30 hA30 => ?_
      refine WL.nil ?_
      refine WK.anyStep (fun w h => (h.sub [2] rfl).less (hI30)) ?_
      refine WA.eff1 (i := 7) (by kernel_rfl) rfl rfl ?_
      refine WL.callF rfl rfl (rInts [id, 0, kids] (.slice (some ⟨g30, 0, none⟩) 3 3) _ (litInts [id, 0, kids] hA30 ⟨hi.id, ⟨by decide, by decide⟩, hi.kids, trivial⟩) (by omega)).frzB rfl fun a31 q31 I31 hI31 hB31 => ?_
      refine WL.nil ?_
      refine WK.anyStep (fun w h => (h.sub [2] rfl).less (hI30.trans hI31)) ?_
      refine WA.eff1 (i := 8) (by kernel_rfl) rfl rfl ?_
      refine WL.appB 1 rfl rfl rfl hB31 rfl (by simp only [List.length_append]; omega) rfl fun a32 q32 => ?_
      refine WL.nSet ?_
      refine WL.nil ?_
      refine WK.anyStep (fun w h => (h.sub [2] rfl).less (hI30.trans hI31)) ?_
      refine WA.eff1 (i := 11) (by kernel_rfl) rfl rfl ?_
      refine WL.callF rfl rfl (attrB atr _ _ _ _ _ (hN.mono (hI5.trans (hI30.trans hI31))) (hi.atr.mono (hI30.trans hI31)) hpx (by omega)).frzB rfl fun a33 q33 I33 hI33 hB33 => ?_
      refine WL.nil ?_
      refine WK.anyStep (fun w h => (h.sub [2] rfl).less ((hI30.trans hI31).trans hI33)) ?_
      refine WA.eff1 (i := 12) (by kernel_rfl) rfl rfl ?_
      refine WL.appB 1 rfl rfl rfl hB33 rfl (by simp only [List.length_append]; omega) rfl fun a34 q34 => ?_
      refine WL.nSet ?_
      refine WL.nil ?_
      refine WK.anyStep (fun w h => (h.sub [2] rfl).less ((hI30.trans hI31).trans hI33)) ?_
      refine WA.take 13 rfl (by kernel_rfl) rfl (fun w h => (h.sub [2] rfl).less ((hI30.trans hI31).trans hI33)) (Val.assignS rfl) rfl ?_
      refine WA.done (by kernel_rfl) ?_
      refine WX.inNormal ?_
      refine WX.thenC ?_
      refine WC.region ?_
      refine WL.val (Val.add rfl rfl (wrap_i64 (by omega) (by omega))) rfl ?_
      refine WL.val (Val.moveI rfl) rfl ?_
      refine WL.nil ?_
      refine WX.conv (fun w h => h.sub [0, 0] rfl) ?_
      exact WX.thenK (WK.round (l.length - (k + 1)) (by omega) ⟨k + 1, _, _, rfl, by omega, hI5.trans ((hI30.trans hI31).trans hI33), by rw [hs2]; rfl, rfl, rfl, rfl, by rw [hs2]⟩)
    · have hs3 : (⟨id, true, kids, atr⟩ : Ent).w = eInts [id, 1, kids] ++ atr.w := by simp [Ent.w, eInts]
      rw [hs3] at hb1 hs2
      rw [← List.append_assoc] at hs2
      simp only [List.length_append] at hb1
      refine WC.seq ?_
      refine WC.region ?_
      refine WL.val (Val.lss rfl rfl (decide_eq_true (by omega))) rfl ?_
      refine WL.nil ?_
      refine WX.thenC ?_
      refine WC.seq ?_
      refine WC.condT rfl ?_
      refine WC.skip ?_
      refine WX.thenC ?_
      refine WC.seq ?_
      refine WC.block ?_
      refine WC.seq ?_
      refine WC.region ?_
      refine WL.val (Val.indexAddr rfl rfl (by omega) (by omega)) rfl ?_
      refine WL.val (Val.loadI rfl (by assumption) rfl) rfl ?_
      (refine WL.alloc rfl ?_; intro _)
      refine WL.nApp ?_
      refine WL.stA 2 rfl rfl rfl rfl ?_
      refine WL.nil ?_
      refine WX.thenC ?_
      refine WC.seq ?_
      refine WC.region ?_
      refine WL.val (Val.assignI rfl) rfl ?_
      refine WL.nil ?_
      refine WX.thenC ?_
      refine WC.seq ?_
      refine WC.seq ?_
      refine WC.region ?_
      refine WL.val (Val.fldAddr rfl) rfl ?_
      refine WL.val (Val.loadS rfl (Rd.own1 2 rfl rfl)) rfl ?_
      refine WL.nil ?_
      refine WX.thenC ?_
      refine WC.condT rfl ?_
      refine WC.region ?_
      refine WL.val (Val.assignI rfl) rfl ?_
      refine WL.nil ?_
      refine WX.thenC ?_
      refine WC.drawK 999 I5 [2] rfl (by kernel_rfl) rfl rfl ?_
      refine WA.take 0 rfl (by kernel_rfl) rfl (fun w h => (h.sub [2] rfl)) (Val.moveS rfl) rfl ?_
      refine WA.take 1 rfl (by kernel_rfl) rfl (fun w h => (h.sub [2] rfl)) (Val.fldAddr rfl) rfl ?_
      refine WA.take 2 rfl (by kernel_rfl) rfl (fun w h => (h.sub [2] rfl)) (Val.loadS rfl (Rd.own1 0 rfl rfl)) rfl ?_
      refine WA.take 3 rfl (by kernel_rfl) rfl (fun w h => (h.sub [2] rfl)) (Val.moveI rfl) rfl ?_
      refine WA.take 4 rfl (by kernel_rfl) rfl (fun w h => (h.sub [2] rfl)) (Val.fldAddr rfl) rfl ?_
      refine WA.take 5 rfl (by kernel_rfl) rfl (fun w h => (h.sub [2] rfl)) (Val.loadS rfl (Rd.own1 0 rfl rfl)) rfl ?_
      refine WA.take 9 rfl (by kernel_rfl) rfl (fun w h => (h.sub [2] rfl)) (Val.fldAddr rfl) rfl ?_
      refine WA.take 10 rfl (by kernel_rfl) rfl (fun w h => (h.sub [2] rfl)) (Val.ldO 0 rfl rfl rfl) rfl ?_
      refine WA.eff1 (i := 6) (by kernel_rfl) rfl rfl ?_
      (refine WL.buildSlice (by with_unfolding_all exact rfl) rfl (by with_unfolding_all exact rfl) rfl ?_; intro _)
      rename_i g30
      refine WL.nApp ?_
      refine WL.freezeBox (xs := [vi id, vi 1, vi kids]) 3 rfl fun I30 hI30 hA30 => ?_
      refine WL.nil ?_
      refine WK.anyStep (fun w h => (h.sub [2] rfl).less (hI30)) ?_
      refine WA.eff1 (i := 7) (by kernel_rfl) rfl rfl ?_
      refine WL.callF rfl rfl (rInts [id, 1, kids] (.slice (some ⟨g30, 0, none⟩) 3 3) _ (litInts [id, 1, kids] hA30 ⟨hi.id, ⟨by decide, by decide⟩, hi.kids, trivial⟩) (by omega)).frzB rfl fun a31 q31 I31 hI31 hB31 => ?_
      refine WL.nil ?_
      refine WK.anyStep (fun w h => (h.sub [2] rfl).less (hI30.trans hI31)) ?_
      refine WA.eff1 (i := 8) (by kernel_rfl) rfl rfl ?_
      refine WL.appB 1 rfl rfl rfl hB31 rfl (by simp only [List.length_append]; omega) rfl fun a32 q32 => ?_
      refine WL.nSet ?_
      refine WL.nil ?_
      refine WK.anyStep (fun w h => (h.sub [2] rfl).less (hI30.trans hI31)) ?_
      refine WA.eff1 (i := 11) (by kernel_rfl) rfl rfl ?_
      refine WL.callF rfl rfl (attrB atr _ _ _ _ _ (hN.mono (hI5.trans (hI30.trans hI31))) (hi.atr.mono (hI30.trans hI31)) hpx (by omega)).frzB rfl fun a33 q33 I33 hI33 hB33 => ?_
      refine WL.nil ?_
      refine WK.anyStep (fun w h => (h.sub [2] rfl).less ((hI30.trans hI31).trans hI33)) ?_
      refine WA.eff1 (i := 12) (by kernel_rfl) rfl rfl ?_
      refine WL.appB 1 rfl rfl rfl hB33 rfl (by simp only [List.length_append]; omega) rfl fun a34 q34 => ?_
      refine WL.nSet ?_
      refine WL.nil ?_
      refine WK.anyStep (fun w h => (h.sub [2] rfl).less ((hI30.trans hI31).trans hI33)) ?_
      refine WA.take 13 rfl (by kernel_rfl) rfl (fun w h => (h.sub [2] rfl).less ((hI30.trans hI31).trans hI33)) (Val.assignS rfl) rfl ?_
      refine WA.done (by kernel_rfl) ?_
      refine WX.inNormal ?_
      refine WX.thenC ?_
      refine WC.region ?_
      refine WL.val (Val.add rfl rfl (wrap_i64 (by omega) (by omega))) rfl ?_
      refine WL.val (Val.moveI rfl) rfl ?_
      refine WL.nil ?_
      refine WX.conv (fun w h => h.sub [0, 0] rfl) ?_
      exact WX.thenK (WK.round (l.length - (k + 1)) (by omega) ⟨k + 1, _, _, rfl, by omega, hI5.trans ((hI30.trans hI31).trans hI33), by rw [hs2]; rfl, rfl, rfl, rfl, by rw [hs2]⟩)
  · skip
    refine WC.seq ?_
    refine WC.region ?_
    refine WL.val (Val.lss rfl rfl (decide_eq_false (by omega))) rfl ?_
    refine WL.nil ?_
    refine WX.thenC ?_
    refine WC.seq ?_
    refine WC.condF rfl ?_
    refine WC.exit ?_
    refine WX.thenExit ?_
    refine WX.thenExit ?_
    refine WX.inHit ?_
    refine WX.thenC ?_
    refine WC.seq ?_
    refine WC.region ?_
    refine WL.val (Val.moveS rfl) rfl ?_
    refine WL.val (Val.assignS rfl) rfl ?_
    refine WL.nil ?_
    refine WX.thenC ?_
    refine WC.ret ?_
    apply WX.doneP (ks := [0])
    case hres => exact RunRes.r1 rfl (ResIs.tmpS rfl)
    case hI => first | exact Mem.le.refl _ | assumption
    obtain rfl : k = l.length := by omega
    rfl
theorem cmdB (c : Cm) (e t u d q : Value) (I : Mem) (hN : NeedAt I) (hc : c.at_ I e t u d q) (hp : c.pl) (hl : c.w.length ≤ 1099511627776) :
    Ctr Tryd.prog 12 [.agg (c.cs e t u d q).toArray] I [] (OwnB c.w) := by
  obtain ⟨hk1, hk2, hnm, hpk⟩ := hp
  have e1 : (eInts [c.kind]).length ≤ 10 := by rw [eInts_one]; exact eInt_len hc.kind
  obtain ⟨a0, c0, a1, c1, a2, c2, a3, c3, a4, c4, rfl, rfl, rfl, rfl, rfl⟩ := hc.sl
  refine Ctr.intro Tryd.func12 rfl rfl rfl fun E F => ?_
  refine WC.seq ?_
  refine WC.region ?_
  (refine WL.boxA rfl rfl ?_; intro _)
  refine WL.nApp ?_
  refine WL.val (Val.assignS rfl) rfl ?_
  refine WL.nil ?_
  refine WX.thenC ?_
  refine WC.seq ?_
  refine WC.region ?_
  refine WL.val (Val.fldAddr rfl) rfl ?_
  refine WL.val (Val.loadS rfl (Rd.own1 1 rfl rfl)) rfl ?_
  (refine WL.buildSlice (by with_unfolding_all exact rfl) rfl (by with_unfolding_all exact rfl) rfl ?_; intro _)
  refine WL.nApp ?_
  rename_i g g10
  refine WL.freezeBox (xs := [vi c.kind]) 2 rfl fun I10 hI10 hA10 => ?_
  refine WL.callB rfl rfl (rInts [c.kind] (.slice (some ⟨g10, 0, none⟩) 1 1) _ (litInts [c.kind] hA10 ⟨hc.kind, trivial⟩) (by omega)) rfl fun a9 q9 I11 hI11 => ?_
  have hI := hI10.trans hI11
  by_cases k1 : c.kind = 1
  · have hw : c.w = eInts [c.kind] ++ eInts [c.parent, c.index] ++ lw Ent.w c.ents := by simp [Cm.w, Cm.tail, k1, eInts]
    simp only [Cm.plK, k1] at hpk
    replace hpk : entsPl c.ents := by simpa using hpk
    rw [hw] at hl ⊢
    simp only [List.length_append] at hl
    refine WL.nApp ?_
    refine WL.val (Val.assignS rfl) rfl ?_
    refine WL.nil ?_
    refine WX.thenC ?_
    refine WC.seq ?_
    refine WC.seq ?_
    refine WC.region ?_
    refine WL.val (Val.fldAddr rfl) rfl ?_
    refine WL.val (Val.loadS rfl (Rd.own1 1 rfl rfl)) rfl ?_
    refine WL.nil ?_
    refine WX.thenC ?_
    refine WC.block ?_
    refine WC.seq ?_
    refine WC.region ?_
    refine WL.val (Val.eql rfl rfl (beq_iff_eq.2 (by omega))) rfl ?_
    refine WL.val (Val.assignB rfl) rfl ?_
    refine WL.nil ?_
    refine WX.thenC ?_
    refine WC.condT rfl ?_
    refine WC.seq ?_
    refine WC.drawK 999 I11 [1] rfl (by kernel_rfl) rfl rfl ?_
    refine WA.take 0 rfl (by kernel_rfl) rfl (fun w h => (h.sub [1] rfl)) (Val.moveS rfl) rfl ?_
    refine WA.take 1 rfl (by kernel_rfl) rfl (fun w h => (h.sub [1] rfl)) (Val.fldAddr rfl) rfl ?_
    refine WA.take 2 rfl (by kernel_rfl) rfl (fun w h => (h.sub [1] rfl)) (Val.loadS rfl (Rd.own1 0 rfl rfl)) rfl ?_
    refine WA.take 3 rfl (by kernel_rfl) rfl (fun w h => (h.sub [1] rfl)) (Val.fldAddr rfl) rfl ?_
    refine WA.take 4 rfl (by kernel_rfl) rfl (fun w h => (h.sub [1] rfl)) (Val.loadS rfl (Rd.own1 0 rfl rfl)) rfl ?_
    refine WA.take 8 rfl (by kernel_rfl) rfl (fun w h => (h.sub [1] rfl)) (Val.fldAddr rfl) rfl ?_
    refine WA.take 9 rfl (by kernel_rfl) rfl (fun w h => (h.sub [1] rfl)) (Val.loadS rfl (Rd.own1 0 rfl rfl)) rfl ?_
    refine WA.eff1 (i := 5) (by kernel_rfl) rfl rfl ?_
    (refine WL.buildSlice (by with_unfolding_all exact rfl) rfl (by with_unfolding_all exact rfl) rfl ?_; intro _)
    rename_i g30
    refine WL.nApp ?_
    refine WL.freezeBox (xs := [vi c.parent, vi c.index]) 3 rfl fun I30 hI30 hA30 => ?_
    refine WL.nil ?_
    refine WK.anyStep (fun w h => (h.sub [1] rfl).less (hI30)) ?_
    refine WA.eff1 (i := 6) (by kernel_rfl) rfl rfl ?_
    refine WL.callF rfl rfl (rInts [c.parent, c.index] (.slice (some ⟨g30, 0, none⟩) 2 2) _ (litInts [c.parent, c.index] hA30 ⟨hc.parent, hc.index, trivial⟩) (by omega)).frzB rfl fun a31 q31 I31 hI31 hB31 => ?_
    refine WL.nil ?_
    refine WK.anyStep (fun w h => (h.sub [1] rfl).less (hI30.trans hI31)) ?_
    refine WA.eff1 (i := 7) (by kernel_rfl) rfl rfl ?_
    refine WL.appB 2 rfl rfl rfl hB31 rfl (by simp only [List.length_append]; omega) rfl fun a32 q32 => ?_
    refine WL.nSet ?_
    refine WL.nil ?_
    refine WK.anyStep (fun w h => (h.sub [1] rfl).less (hI30.trans hI31)) ?_
    refine WA.eff1 (i := 10) (by kernel_rfl) rfl rfl ?_
    refine WL.callF rfl rfl (entsB c.ents _ _ (hN.mono (hI.trans (hI30.trans hI31))) (hc.ents.mono (hI.trans (hI30.trans hI31))) hpk (by omega)).frzB rfl fun a33 q33 I33 hI33 hB33 => ?_
    refine WL.nil ?_
    refine WK.anyStep (fun w h => (h.sub [1] rfl).less ((hI30.trans hI31).trans hI33)) ?_
    refine WA.eff1 (i := 11) (by kernel_rfl) rfl rfl ?_
    refine WL.appB 2 rfl rfl rfl hB33 rfl (by simp only [List.length_append]; omega) rfl fun a34 q34 => ?_
    refine WL.nSet ?_
    refine WL.nil ?_
    refine WK.anyStep (fun w h => (h.sub [1] rfl).less ((hI30.trans hI31).trans hI33)) ?_
    refine WA.take 12 rfl (by kernel_rfl) rfl (fun w h => (h.sub [1] rfl).less ((hI30.trans hI31).trans hI33)) (Val.assignS rfl) rfl ?_
    refine WA.done (by kernel_rfl) ?_
    refine WX.thenC ?_
    refine WC.ret ?_
    refine WX.inRet ?_
    refine WX.thenRet ?_
    have hJ := hI.trans ((hI30.trans hI31).trans hI33)
    apply WX.doneP (ks := [1])
    case hres => exact RunRes.r1 rfl (ResIs.tmpS rfl)
    case hI => first | exact Mem.le.refl _ | assumption
    rfl
  by_cases k2 : c.kind = 2
  · have hw : c.w = eInts [c.kind] ++ eInts [c.id] := by simp [Cm.w, Cm.tail, k2, eInts]
    rw [hw] at hl ⊢
    simp only [List.length_append] at hl
    refine WL.nApp ?_
    refine WL.val (Val.assignS rfl) rfl ?_
    refine WL.nil ?_
    refine WX.thenC ?_
    refine WC.seq ?_
    refine WC.seq ?_
    refine WC.region ?_
    refine WL.val (Val.fldAddr rfl) rfl ?_
    refine WL.val (Val.loadS rfl (Rd.own1 1 rfl rfl)) rfl ?_
    refine WL.nil ?_
    refine WX.thenC ?_
    refine WC.block ?_
    refine WC.seq ?_
    refine WC.region ?_
    refine WL.val (Val.eql rfl rfl (beq_eq_false_iff_ne.2 (by omega))) rfl ?_
    refine WL.val (Val.assignB rfl) rfl ?_
    refine WL.nil ?_
    refine WX.thenC ?_
    refine WC.condF rfl ?_
    refine WC.seq ?_
    refine WC.seq ?_
    refine WC.region ?_
    refine WL.val (Val.eql rfl rfl (beq_iff_eq.2 (by omega))) rfl ?_
    refine WL.val (Val.assignB rfl) rfl ?_
    refine WL.nil ?_
    refine WX.thenC ?_
    refine WC.condT rfl ?_
    refine WC.skip ?_
    refine WX.thenC ?_
    refine WC.condT rfl ?_
    refine WC.seq ?_
    refine WC.region ?_
    refine WL.val (Val.moveS rfl) rfl ?_
    refine WL.val (Val.fldAddr rfl) rfl ?_
    refine WL.val (Val.loadS rfl (Rd.own1 1 rfl rfl)) rfl ?_
    (refine WL.buildSlice (by with_unfolding_all exact rfl) rfl (by with_unfolding_all exact rfl) rfl ?_; intro _)
    refine WL.nApp ?_
    rename_i g30
    refine WL.freezeBox (xs := [vi c.id]) 3 rfl fun I30 hI30 hA30 => ?_
    refine WL.callF rfl rfl (rInts [c.id] (.slice (some ⟨g30, 0, none⟩) 1 1) _ (litInts [c.id] hA30 ⟨hc.id, trivial⟩) (by omega)).frzB rfl fun a31 q31 I31 hI31 hB31 => ?_
    refine WL.appB 2 rfl rfl rfl hB31 rfl (by simp only [List.length_append]; omega) rfl fun a32 q32 => ?_
    refine WL.nSet ?_
    refine WL.val (Val.assignS rfl) rfl ?_
    refine WL.nil ?_
    refine WX.thenC ?_
    refine WC.ret ?_
    refine WX.inRet ?_
    refine WX.thenRet ?_
    have hJ := hI.trans (hI30.trans hI31)
    apply WX.doneP (ks := [1])
    case hres => exact RunRes.r1 rfl (ResIs.tmpS rfl)
    case hI => first | exact Mem.le.refl _ | assumption
    rfl
  by_cases k3 : c.kind = 3
  · have hw : c.w = eInts [c.kind] ++ eInts [c.id, c.parent, c.index] := by simp [Cm.w, Cm.tail, k3, eInts]
    rw [hw] at hl ⊢
    simp only [List.length_append] at hl
    refine WL.nApp ?_
    refine WL.val (Val.assignS rfl) rfl ?_
    refine WL.nil ?_
    refine WX.thenC ?_
    refine WC.seq ?_
    refine WC.seq ?_
    refine WC.region ?_
    refine WL.val (Val.fldAddr rfl) rfl ?_
    refine WL.val (Val.loadS rfl (Rd.own1 1 rfl rfl)) rfl ?_
    refine WL.nil ?_
    refine WX.thenC ?_
    refine WC.block ?_
    refine WC.seq ?_
    refine WC.region ?_
    refine WL.val (Val.eql rfl rfl (beq_eq_false_iff_ne.2 (by omega))) rfl ?_
    refine WL.val (Val.assignB rfl) rfl ?_
    refine WL.nil ?_
    refine WX.thenC ?_
    refine WC.condF rfl ?_
    refine WC.seq ?_
    refine WC.seq ?_
    refine WC.region ?_
    refine WL.val (Val.eql rfl rfl (beq_eq_false_iff_ne.2 (by omega))) rfl ?_
    refine WL.val (Val.assignB rfl) rfl ?_
    refine WL.nil ?_
    refine WX.thenC ?_
    refine WC.condF rfl ?_
    refine WC.region ?_
    refine WL.val (Val.eql rfl rfl (beq_eq_false_iff_ne.2 (by omega))) rfl ?_
    refine WL.val (Val.assignB rfl) rfl ?_
    refine WL.nil ?_
    refine WX.thenC ?_
    refine WC.condF rfl ?_
    refine WC.seq ?_
    refine WC.region ?_
    refine WL.val (Val.eql rfl rfl (beq_iff_eq.2 (by omega))) rfl ?_
    refine WL.val (Val.assignB rfl) rfl ?_
    refine WL.nil ?_
    refine WX.thenC ?_
    refine WC.condT rfl ?_
    refine WC.seq ?_
    refine WC.region ?_
    refine WL.val (Val.moveS rfl) rfl ?_
    refine WL.val (Val.fldAddr rfl) rfl ?_
    refine WL.val (Val.loadS rfl (Rd.own1 1 rfl rfl)) rfl ?_
    refine WL.val (Val.fldAddr rfl) rfl ?_
    refine WL.val (Val.loadS rfl (Rd.own1 1 rfl rfl)) rfl ?_
    refine WL.val (Val.fldAddr rfl) rfl ?_
    refine WL.val (Val.loadS rfl (Rd.own1 1 rfl rfl)) rfl ?_
    (refine WL.buildSlice (by with_unfolding_all exact rfl) rfl (by with_unfolding_all exact rfl) rfl ?_; intro _)
    refine WL.nApp ?_
    rename_i g30
    refine WL.freezeBox (xs := [vi c.id, vi c.parent, vi c.index]) 3 rfl fun I30 hI30 hA30 => ?_
    refine WL.callF rfl rfl (rInts [c.id, c.parent, c.index] (.slice (some ⟨g30, 0, none⟩) 3 3) _ (litInts [c.id, c.parent, c.index] hA30 ⟨hc.id, hc.parent, hc.index, trivial⟩) (by omega)).frzB rfl fun a31 q31 I31 hI31 hB31 => ?_
    refine WL.appB 2 rfl rfl rfl hB31 rfl (by simp only [List.length_append]; omega) rfl fun a32 q32 => ?_
    refine WL.nSet ?_
    refine WL.val (Val.assignS rfl) rfl ?_
    refine WL.nil ?_
    refine WX.thenC ?_
    refine WC.ret ?_
    refine WX.inRet ?_
    refine WX.thenRet ?_
    have hJ := hI.trans (hI30.trans hI31)
    apply WX.doneP (ks := [1])
    case hres => exact RunRes.r1 rfl (ResIs.tmpS rfl)
    case hI => first | exact Mem.le.refl _ | assumption
    rfl
  by_cases k4 : c.kind = 4
  · have hw : c.w = eInts [c.kind] ++ eInts [c.id, c.parent, c.index, c.count] ++ c.atr.w := by simp [Cm.w, Cm.tail, k4, eInts]
    simp only [Cm.plK, k4] at hpk
    replace hpk : c.atr.pl := by simpa using hpk
    rw [hw] at hl ⊢
    simp only [List.length_append] at hl
    refine WL.nApp ?_
    refine WL.val (Val.assignS rfl) rfl ?_
    refine WL.nil ?_
    refine WX.thenC ?_
    refine WC.seq ?_
    refine WC.seq ?_
    refine WC.region ?_
    refine WL.val (Val.fldAddr rfl) rfl ?_
    refine WL.val (Val.loadS rfl (Rd.own1 1 rfl rfl)) rfl ?_
    refine WL.nil ?_
    refine WX.thenC ?_
    refine WC.block ?_
    refine WC.seq ?_
    refine WC.region ?_
    refine WL.val (Val.eql rfl rfl (beq_eq_false_iff_ne.2 (by omega))) rfl ?_
    refine WL.val (Val.assignB rfl) rfl ?_
    refine WL.nil ?_
    refine WX.thenC ?_
    refine WC.condF rfl ?_
    refine WC.seq ?_
    refine WC.seq ?_
    refine WC.region ?_
    refine WL.val (Val.eql rfl rfl (beq_eq_false_iff_ne.2 (by omega))) rfl ?_
    refine WL.val (Val.assignB rfl) rfl ?_
    refine WL.nil ?_
    refine WX.thenC ?_
    refine WC.condF rfl ?_
    refine WC.region ?_
    refine WL.val (Val.eql rfl rfl (beq_eq_false_iff_ne.2 (by omega))) rfl ?_
    refine WL.val (Val.assignB rfl) rfl ?_
    refine WL.nil ?_
    refine WX.thenC ?_
    refine WC.condF rfl ?_
    refine WC.seq ?_
    refine WC.region ?_
    refine WL.val (Val.eql rfl rfl (beq_eq_false_iff_ne.2 (by omega))) rfl ?_
    refine WL.val (Val.assignB rfl) rfl ?_
    refine WL.nil ?_
    refine WX.thenC ?_
    refine WC.condF rfl ?_
    refine WC.seq ?_
    refine WC.region ?_
    refine WL.val (Val.eql rfl rfl (beq_iff_eq.2 (by omega))) rfl ?_
    refine WL.val (Val.assignB rfl) rfl ?_
    refine WL.nil ?_
    refine WX.thenC ?_
    refine WC.condT rfl ?_
    refine WC.seq ?_
    refine WC.drawK 999 I11 [1] rfl (by kernel_rfl) rfl rfl ?_
    refine WA.take 0 rfl (by kernel_rfl) rfl (fun w h => (h.sub [1] rfl)) (Val.moveS rfl) rfl ?_
    refine WA.take 1 rfl (by kernel_rfl) rfl (fun w h => (h.sub [1] rfl)) (Val.fldAddr rfl) rfl ?_
    refine WA.take 2 rfl (by kernel_rfl) rfl (fun w h => (h.sub [1] rfl)) (Val.loadS rfl (Rd.own1 0 rfl rfl)) rfl ?_
    refine WA.take 3 rfl (by kernel_rfl) rfl (fun w h => (h.sub [1] rfl)) (Val.fldAddr rfl) rfl ?_
    refine WA.take 4 rfl (by kernel_rfl) rfl (fun w h => (h.sub [1] rfl)) (Val.loadS rfl (Rd.own1 0 rfl rfl)) rfl ?_
    refine WA.take 5 rfl (by kernel_rfl) rfl (fun w h => (h.sub [1] rfl)) (Val.fldAddr rfl) rfl ?_
    refine WA.take 6 rfl (by kernel_rfl) rfl (fun w h => (h.sub [1] rfl)) (Val.loadS rfl (Rd.own1 0 rfl rfl)) rfl ?_
    refine WA.take 7 rfl (by kernel_rfl) rfl (fun w h => (h.sub [1] rfl)) (Val.fldAddr rfl) rfl ?_
    refine WA.take 8 rfl (by kernel_rfl) rfl (fun w h => (h.sub [1] rfl)) (Val.loadS rfl (Rd.own1 0 rfl rfl)) rfl ?_
    refine WA.take 12 rfl (by kernel_rfl) rfl (fun w h => (h.sub [1] rfl)) (Val.fldAddr rfl) rfl ?_
    refine WA.take 13 rfl (by kernel_rfl) rfl (fun w h => (h.sub [1] rfl)) (Val.ldO 0 rfl rfl rfl) rfl ?_
    refine WA.eff1 (i := 9) (by kernel_rfl) rfl rfl ?_
    (refine WL.buildSlice (by with_unfolding_all exact rfl) rfl (by with_unfolding_all exact rfl) rfl ?_; intro _)
    rename_i g30
    refine WL.nApp ?_
    refine WL.freezeBox (xs := [vi c.id, vi c.parent, vi c.index, vi c.count]) 3 rfl fun I30 hI30 hA30 => ?_
    refine WL.nil ?_
    refine WK.anyStep (fun w h => (h.sub [1] rfl).less (hI30)) ?_
    refine WA.eff1 (i := 10) (by kernel_rfl) rfl rfl ?_
    refine WL.callF rfl rfl (rInts [c.id, c.parent, c.index, c.count] (.slice (some ⟨g30, 0, none⟩) 4 4) _ (litInts [c.id, c.parent, c.index, c.count] hA30 ⟨hc.id, hc.parent, hc.index, hc.count, trivial⟩) (by omega)).frzB rfl fun a31 q31 I31 hI31 hB31 => ?_
    refine WL.nil ?_
    refine WK.anyStep (fun w h => (h.sub [1] rfl).less (hI30.trans hI31)) ?_
    refine WA.eff1 (i := 11) (by kernel_rfl) rfl rfl ?_
    refine WL.appB 2 rfl rfl rfl hB31 rfl (by simp only [List.length_append]; omega) rfl fun a32 q32 => ?_
    refine WL.nSet ?_
    refine WL.nil ?_
    refine WK.anyStep (fun w h => (h.sub [1] rfl).less (hI30.trans hI31)) ?_
    refine WA.eff1 (i := 14) (by kernel_rfl) rfl rfl ?_
    refine WL.callF rfl rfl (attrB c.atr _ _ _ _ _ (hN.mono (hI.trans (hI30.trans hI31))) (hc.atr.mono (hI.trans (hI30.trans hI31))) hpk (by omega)).frzB rfl fun a33 q33 I33 hI33 hB33 => ?_
    refine WL.nil ?_
    refine WK.anyStep (fun w h => (h.sub [1] rfl).less ((hI30.trans hI31).trans hI33)) ?_
    refine WA.eff1 (i := 15) (by kernel_rfl) rfl rfl ?_
    refine WL.appB 2 rfl rfl rfl hB33 rfl (by simp only [List.length_append]; omega) rfl fun a34 q34 => ?_
    refine WL.nSet ?_
    refine WL.nil ?_
    refine WK.anyStep (fun w h => (h.sub [1] rfl).less ((hI30.trans hI31).trans hI33)) ?_
    refine WA.take 16 rfl (by kernel_rfl) rfl (fun w h => (h.sub [1] rfl).less ((hI30.trans hI31).trans hI33)) (Val.assignS rfl) rfl ?_
    refine WA.done (by kernel_rfl) ?_
    refine WX.thenC ?_
    refine WC.ret ?_
    refine WX.inRet ?_
    refine WX.thenRet ?_
    have hJ := hI.trans ((hI30.trans hI31).trans hI33)
    apply WX.doneP (ks := [1])
    case hres => exact RunRes.r1 rfl (ResIs.tmpS rfl)
    case hI => first | exact Mem.le.refl _ | assumption
    rfl
  by_cases k5 : c.kind = 5
  · have hw : c.w = eInts [c.kind] ++ eInts [c.id] := by simp [Cm.w, Cm.tail, k5, eInts]
    rw [hw] at hl ⊢
    simp only [List.length_append] at hl
    refine WL.nApp ?_
    refine WL.val (Val.assignS rfl) rfl ?_
    refine WL.nil ?_
    refine WX.thenC ?_
    refine WC.seq ?_
    refine WC.seq ?_
    refine WC.region ?_
    refine WL.val (Val.fldAddr rfl) rfl ?_
    refine WL.val (Val.loadS rfl (Rd.own1 1 rfl rfl)) rfl ?_
    refine WL.nil ?_
    refine WX.thenC ?_
    refine WC.block ?_
    refine WC.seq ?_
    refine WC.region ?_
    refine WL.val (Val.eql rfl rfl (beq_eq_false_iff_ne.2 (by omega))) rfl ?_
    refine WL.val (Val.assignB rfl) rfl ?_
    refine WL.nil ?_
    refine WX.thenC ?_
    refine WC.condF rfl ?_
    refine WC.seq ?_
    refine WC.seq ?_
    refine WC.region ?_
    refine WL.val (Val.eql rfl rfl (beq_eq_false_iff_ne.2 (by omega))) rfl ?_
    refine WL.val (Val.assignB rfl) rfl ?_
    refine WL.nil ?_
    refine WX.thenC ?_
    refine WC.condF rfl ?_
    refine WC.region ?_
    refine WL.val (Val.eql rfl rfl (beq_iff_eq.2 (by omega))) rfl ?_
    refine WL.val (Val.assignB rfl) rfl ?_
    refine WL.nil ?_
    refine WX.thenC ?_
    refine WC.condT rfl ?_
    refine WC.seq ?_
    refine WC.region ?_
    refine WL.val (Val.moveS rfl) rfl ?_
    refine WL.val (Val.fldAddr rfl) rfl ?_
    refine WL.val (Val.loadS rfl (Rd.own1 1 rfl rfl)) rfl ?_
    (refine WL.buildSlice (by with_unfolding_all exact rfl) rfl (by with_unfolding_all exact rfl) rfl ?_; intro _)
    refine WL.nApp ?_
    rename_i g30
    refine WL.freezeBox (xs := [vi c.id]) 3 rfl fun I30 hI30 hA30 => ?_
    refine WL.callF rfl rfl (rInts [c.id] (.slice (some ⟨g30, 0, none⟩) 1 1) _ (litInts [c.id] hA30 ⟨hc.id, trivial⟩) (by omega)).frzB rfl fun a31 q31 I31 hI31 hB31 => ?_
    refine WL.appB 2 rfl rfl rfl hB31 rfl (by simp only [List.length_append]; omega) rfl fun a32 q32 => ?_
    refine WL.nSet ?_
    refine WL.val (Val.assignS rfl) rfl ?_
    refine WL.nil ?_
    refine WX.thenC ?_
    refine WC.ret ?_
    refine WX.inRet ?_
    refine WX.thenRet ?_
    have hJ := hI.trans (hI30.trans hI31)
    apply WX.doneP (ks := [1])
    case hres => exact RunRes.r1 rfl (ResIs.tmpS rfl)
    case hI => first | exact Mem.le.refl _ | assumption
    rfl
  by_cases k6 : c.kind = 6
  · have hw : c.w = eInts [c.kind] ++ eInts [c.id] ++ c.atr.mtx.w := by simp [Cm.w, Cm.tail, k6, eInts]
    rw [hw] at hl ⊢
    simp only [List.length_append] at hl
    refine WL.nApp ?_
    refine WL.val (Val.assignS rfl) rfl ?_
    refine WL.nil ?_
    refine WX.thenC ?_
    refine WC.seq ?_
    refine WC.seq ?_
    refine WC.region ?_
    refine WL.val (Val.fldAddr rfl) rfl ?_
    refine WL.val (Val.loadS rfl (Rd.own1 1 rfl rfl)) rfl ?_
    refine WL.nil ?_
    refine WX.thenC ?_
    refine WC.block ?_
    refine WC.seq ?_
    refine WC.region ?_
    refine WL.val (Val.eql rfl rfl (beq_eq_false_iff_ne.2 (by omega))) rfl ?_
    refine WL.val (Val.assignB rfl) rfl ?_
    refine WL.nil ?_
    refine WX.thenC ?_
    refine WC.condF rfl ?_
    refine WC.seq ?_
    refine WC.seq ?_
    refine WC.region ?_
    refine WL.val (Val.eql rfl rfl (beq_eq_false_iff_ne.2 (by omega))) rfl ?_
    refine WL.val (Val.assignB rfl) rfl ?_
    refine WL.nil ?_
    refine WX.thenC ?_
    refine WC.condF rfl ?_
    refine WC.region ?_
    refine WL.val (Val.eql rfl rfl (beq_eq_false_iff_ne.2 (by omega))) rfl ?_
    refine WL.val (Val.assignB rfl) rfl ?_
    refine WL.nil ?_
    refine WX.thenC ?_
    refine WC.condF rfl ?_
    refine WC.seq ?_
    refine WC.region ?_
    refine WL.val (Val.eql rfl rfl (beq_eq_false_iff_ne.2 (by omega))) rfl ?_
    refine WL.val (Val.assignB rfl) rfl ?_
    refine WL.nil ?_
    refine WX.thenC ?_
    refine WC.condF rfl ?_
    refine WC.seq ?_
    refine WC.region ?_
    refine WL.val (Val.eql rfl rfl (beq_eq_false_iff_ne.2 (by omega))) rfl ?_
    refine WL.val (Val.assignB rfl) rfl ?_
    refine WL.nil ?_
    refine WX.thenC ?_
    refine WC.condF rfl ?_
    refine WC.seq ?_
    refine WC.region ?_
    refine WL.val (Val.eql rfl rfl (beq_iff_eq.2 (by omega))) rfl ?_
    refine WL.val (Val.assignB rfl) rfl ?_
    refine WL.nil ?_
    refine WX.thenC ?_
    refine WC.condT rfl ?_
    refine WC.seq ?_
    refine WC.drawK 999 I11 [1] rfl (by kernel_rfl) rfl rfl ?_
    refine WA.take 0 rfl (by kernel_rfl) rfl (fun w h => (h.sub [1] rfl)) (Val.moveS rfl) rfl ?_
    refine WA.take 1 rfl (by kernel_rfl) rfl (fun w h => (h.sub [1] rfl)) (Val.fldAddr rfl) rfl ?_
    refine WA.take 2 rfl (by kernel_rfl) rfl (fun w h => (h.sub [1] rfl)) (Val.loadS rfl (Rd.own1 0 rfl rfl)) rfl ?_
    refine WA.take 6 rfl (by kernel_rfl) rfl (fun w h => (h.sub [1] rfl)) (Val.fldAddr rfl) rfl ?_
    refine WA.take 7 rfl (by kernel_rfl) rfl (fun w h => (h.sub [1] rfl)) (Val.fldAddr rfl) rfl ?_
    refine WA.take 8 rfl (by kernel_rfl) rfl (fun w h => (h.sub [1] rfl)) (Val.ldO 0 rfl rfl rfl) rfl ?_
    refine WA.eff1 (i := 3) (by kernel_rfl) rfl rfl ?_
    (refine WL.buildSlice (by with_unfolding_all exact rfl) rfl (by with_unfolding_all exact rfl) rfl ?_; intro _)
    rename_i g30
    refine WL.nApp ?_
    refine WL.freezeBox (xs := [vi c.id]) 3 rfl fun I30 hI30 hA30 => ?_
    refine WL.nil ?_
    refine WK.anyStep (fun w h => (h.sub [1] rfl).less (hI30)) ?_
    refine WA.eff1 (i := 4) (by kernel_rfl) rfl rfl ?_
    refine WL.callF rfl rfl (rInts [c.id] (.slice (some ⟨g30, 0, none⟩) 1 1) _ (litInts [c.id] hA30 ⟨hc.id, trivial⟩) (by omega)).frzB rfl fun a31 q31 I31 hI31 hB31 => ?_
    refine WL.nil ?_
    refine WK.anyStep (fun w h => (h.sub [1] rfl).less (hI30.trans hI31)) ?_
    refine WA.eff1 (i := 5) (by kernel_rfl) rfl rfl ?_
    refine WL.appB 2 rfl rfl rfl hB31 rfl (by simp only [List.length_append]; omega) rfl fun a32 q32 => ?_
    refine WL.nSet ?_
    refine WL.nil ?_
    refine WK.anyStep (fun w h => (h.sub [1] rfl).less (hI30.trans hI31)) ?_
    refine WA.eff1 (i := 9) (by kernel_rfl) rfl rfl ?_
    refine WL.callF rfl rfl (mtxB c.atr.mtx _ hc.atr.mtx).frzB rfl fun a33 q33 I33 hI33 hB33 => ?_
    refine WL.nil ?_
    refine WK.anyStep (fun w h => (h.sub [1] rfl).less ((hI30.trans hI31).trans hI33)) ?_
    refine WA.eff1 (i := 10) (by kernel_rfl) rfl rfl ?_
    refine WL.appB 2 rfl rfl rfl hB33 rfl (by simp only [List.length_append]; omega) rfl fun a34 q34 => ?_
    refine WL.nSet ?_
    refine WL.nil ?_
    refine WK.anyStep (fun w h => (h.sub [1] rfl).less ((hI30.trans hI31).trans hI33)) ?_
    refine WA.take 11 rfl (by kernel_rfl) rfl (fun w h => (h.sub [1] rfl).less ((hI30.trans hI31).trans hI33)) (Val.assignS rfl) rfl ?_
    refine WA.done (by kernel_rfl) ?_
    refine WX.thenC ?_
    refine WC.ret ?_
    refine WX.inRet ?_
    refine WX.thenRet ?_
    have hJ := hI.trans ((hI30.trans hI31).trans hI33)
    apply WX.doneP (ks := [1])
    case hres => exact RunRes.r1 rfl (ResIs.tmpS rfl)
    case hI => first | exact Mem.le.refl _ | assumption
    rfl
  by_cases k7 : c.kind = 7
  · have hw : c.w = eInts [c.kind] ++ eInts [c.id] ++ c.atr.sty.w := by simp [Cm.w, Cm.tail, k7, eInts]
    simp only [Cm.plK, k7] at hpk
    replace hpk : c.atr.sty.pl := by simpa using hpk
    rw [hw] at hl ⊢
    simp only [List.length_append] at hl
    refine WL.nApp ?_
    refine WL.val (Val.assignS rfl) rfl ?_
    refine WL.nil ?_
    refine WX.thenC ?_
    refine WC.seq ?_
    refine WC.seq ?_
    refine WC.region ?_
    refine WL.val (Val.fldAddr rfl) rfl ?_
    refine WL.val (Val.loadS rfl (Rd.own1 1 rfl rfl)) rfl ?_
    refine WL.nil ?_
    refine WX.thenC ?_
    refine WC.block ?_
    refine WC.seq ?_
    refine WC.region ?_
    refine WL.val (Val.eql rfl rfl (beq_eq_false_iff_ne.2 (by omega))) rfl ?_
    refine WL.val (Val.assignB rfl) rfl ?_
    refine WL.nil ?_
    refine WX.thenC ?_
    refine WC.condF rfl ?_
    refine WC.seq ?_
    refine WC.seq ?_
    refine WC.region ?_
    refine WL.val (Val.eql rfl rfl (beq_eq_false_iff_ne.2 (by omega))) rfl ?_
    refine WL.val (Val.assignB rfl) rfl ?_
    refine WL.nil ?_
    refine WX.thenC ?_
    refine WC.condF rfl ?_
    refine WC.region ?_
    refine WL.val (Val.eql rfl rfl (beq_eq_false_iff_ne.2 (by omega))) rfl ?_
    refine WL.val (Val.assignB rfl) rfl ?_
    refine WL.nil ?_
    refine WX.thenC ?_
    refine WC.condF rfl ?_
    refine WC.seq ?_
    refine WC.region ?_
    refine WL.val (Val.eql rfl rfl (beq_eq_false_iff_ne.2 (by omega))) rfl ?_
    refine WL.val (Val.assignB rfl) rfl ?_
    refine WL.nil ?_
    refine WX.thenC ?_
    refine WC.condF rfl ?_
    refine WC.seq ?_
    refine WC.region ?_
    refine WL.val (Val.eql rfl rfl (beq_eq_false_iff_ne.2 (by omega))) rfl ?_
    refine WL.val (Val.assignB rfl) rfl ?_
    refine WL.nil ?_
    refine WX.thenC ?_
    refine WC.condF rfl ?_
    refine WC.seq ?_
    refine WC.region ?_
    refine WL.val (Val.eql rfl rfl (beq_eq_false_iff_ne.2 (by omega))) rfl ?_
    refine WL.val (Val.assignB rfl) rfl ?_
    refine WL.nil ?_
    refine WX.thenC ?_
    refine WC.condF rfl ?_
    refine WC.seq ?_
    refine WC.region ?_
    refine WL.val (Val.eql rfl rfl (beq_iff_eq.2 (by omega))) rfl ?_
    refine WL.val (Val.assignB rfl) rfl ?_
    refine WL.nil ?_
    refine WX.thenC ?_
    refine WC.condT rfl ?_
    refine WC.seq ?_
    refine WC.drawK 999 I11 [1] rfl (by kernel_rfl) rfl rfl ?_
    refine WA.take 0 rfl (by kernel_rfl) rfl (fun w h => (h.sub [1] rfl)) (Val.moveS rfl) rfl ?_
    refine WA.take 1 rfl (by kernel_rfl) rfl (fun w h => (h.sub [1] rfl)) (Val.fldAddr rfl) rfl ?_
    refine WA.take 2 rfl (by kernel_rfl) rfl (fun w h => (h.sub [1] rfl)) (Val.loadS rfl (Rd.own1 0 rfl rfl)) rfl ?_
    refine WA.take 6 rfl (by kernel_rfl) rfl (fun w h => (h.sub [1] rfl)) (Val.fldAddr rfl) rfl ?_
    refine WA.take 7 rfl (by kernel_rfl) rfl (fun w h => (h.sub [1] rfl)) (Val.fldAddr rfl) rfl ?_
    refine WA.take 8 rfl (by kernel_rfl) rfl (fun w h => (h.sub [1] rfl)) (Val.ldO 0 rfl rfl rfl) rfl ?_
    refine WA.eff1 (i := 3) (by kernel_rfl) rfl rfl ?_
    (refine WL.buildSlice (by with_unfolding_all exact rfl) rfl (by with_unfolding_all exact rfl) rfl ?_; intro _)
    rename_i g30
    refine WL.nApp ?_
    refine WL.freezeBox (xs := [vi c.id]) 3 rfl fun I30 hI30 hA30 => ?_
    refine WL.nil ?_
    refine WK.anyStep (fun w h => (h.sub [1] rfl).less (hI30)) ?_
    refine WA.eff1 (i := 4) (by kernel_rfl) rfl rfl ?_
    refine WL.callF rfl rfl (rInts [c.id] (.slice (some ⟨g30, 0, none⟩) 1 1) _ (litInts [c.id] hA30 ⟨hc.id, trivial⟩) (by omega)).frzB rfl fun a31 q31 I31 hI31 hB31 => ?_
    refine WL.nil ?_
    refine WK.anyStep (fun w h => (h.sub [1] rfl).less (hI30.trans hI31)) ?_
    refine WA.eff1 (i := 5) (by kernel_rfl) rfl rfl ?_
    refine WL.appB 2 rfl rfl rfl hB31 rfl (by simp only [List.length_append]; omega) rfl fun a32 q32 => ?_
    refine WL.nSet ?_
    refine WL.nil ?_
    refine WK.anyStep (fun w h => (h.sub [1] rfl).less (hI30.trans hI31)) ?_
    refine WA.eff1 (i := 9) (by kernel_rfl) rfl rfl ?_
    refine WL.callF rfl rfl (styleB c.atr.sty _ _ _ _ (hc.atr.sty.mono (hI.trans (hI30.trans hI31))) hpk (by omega)).frzB rfl fun a33 q33 I33 hI33 hB33 => ?_
    refine WL.nil ?_
    refine WK.anyStep (fun w h => (h.sub [1] rfl).less ((hI30.trans hI31).trans hI33)) ?_
    refine WA.eff1 (i := 10) (by kernel_rfl) rfl rfl ?_
    refine WL.appB 2 rfl rfl rfl hB33 rfl (by simp only [List.length_append]; omega) rfl fun a34 q34 => ?_
    refine WL.nSet ?_
    refine WL.nil ?_
    refine WK.anyStep (fun w h => (h.sub [1] rfl).less ((hI30.trans hI31).trans hI33)) ?_
    refine WA.take 11 rfl (by kernel_rfl) rfl (fun w h => (h.sub [1] rfl).less ((hI30.trans hI31).trans hI33)) (Val.assignS rfl) rfl ?_
    refine WA.done (by kernel_rfl) ?_
    refine WX.thenC ?_
    refine WC.ret ?_
    refine WX.inRet ?_
    refine WX.thenRet ?_
    have hJ := hI.trans ((hI30.trans hI31).trans hI33)
    apply WX.doneP (ks := [1])
    case hres => exact RunRes.r1 rfl (ResIs.tmpS rfl)
    case hI => first | exact Mem.le.refl _ | assumption
    rfl
  by_cases k8 : c.kind = 8
  · have hw : c.w = eInts [c.kind] ++ eInts [c.id] ++ lw Sg.w c.atr.path := by simp [Cm.w, Cm.tail, k8, eInts]
    simp only [Cm.plK, k8] at hpk
    replace hpk : pathPl c.atr.path := by simpa using hpk
    rw [hw] at hl ⊢
    simp only [List.length_append] at hl
    refine WL.nApp ?_
    refine WL.val (Val.assignS rfl) rfl ?_
    refine WL.nil ?_
    refine WX.thenC ?_
    refine WC.seq ?_
    refine WC.seq ?_
    refine WC.region ?_
    refine WL.val (Val.fldAddr rfl) rfl ?_
    refine WL.val (Val.loadS rfl (Rd.own1 1 rfl rfl)) rfl ?_
    refine WL.nil ?_
    refine WX.thenC ?_
    refine WC.block ?_
    refine WC.seq ?_
    refine WC.region ?_
    refine WL.val (Val.eql rfl rfl (beq_eq_false_iff_ne.2 (by omega))) rfl ?_
    refine WL.val (Val.assignB rfl) rfl ?_
    refine WL.nil ?_
    refine WX.thenC ?_
    refine WC.condF rfl ?_
    refine WC.seq ?_
    refine WC.seq ?_
    refine WC.region ?_
    refine WL.val (Val.eql rfl rfl (beq_eq_false_iff_ne.2 (by omega))) rfl ?_
    refine WL.val (Val.assignB rfl) rfl ?_
    refine WL.nil ?_
    refine WX.thenC ?_
    refine WC.condF rfl ?_
    refine WC.region ?_
    refine WL.val (Val.eql rfl rfl (beq_eq_false_iff_ne.2 (by omega))) rfl ?_
    refine WL.val (Val.assignB rfl) rfl ?_
    refine WL.nil ?_
    refine WX.thenC ?_
    refine WC.condF rfl ?_
    refine WC.seq ?_
    refine WC.region ?_
    refine WL.val (Val.eql rfl rfl (beq_eq_false_iff_ne.2 (by omega))) rfl ?_
    refine WL.val (Val.assignB rfl) rfl ?_
    refine WL.nil ?_
    refine WX.thenC ?_
    refine WC.condF rfl ?_
    refine WC.seq ?_
    refine WC.region ?_
    refine WL.val (Val.eql rfl rfl (beq_eq_false_iff_ne.2 (by omega))) rfl ?_
    refine WL.val (Val.assignB rfl) rfl ?_
    refine WL.nil ?_
    refine WX.thenC ?_
    refine WC.condF rfl ?_
    refine WC.seq ?_
    refine WC.region ?_
    refine WL.val (Val.eql rfl rfl (beq_eq_false_iff_ne.2 (by omega))) rfl ?_
    refine WL.val (Val.assignB rfl) rfl ?_
    refine WL.nil ?_
    refine WX.thenC ?_
    refine WC.condF rfl ?_
    refine WC.seq ?_
    refine WC.region ?_
    refine WL.val (Val.eql rfl rfl (beq_eq_false_iff_ne.2 (by omega))) rfl ?_
    refine WL.val (Val.assignB rfl) rfl ?_
    refine WL.nil ?_
    refine WX.thenC ?_
    refine WC.condF rfl ?_
    refine WC.seq ?_
    refine WC.region ?_
    refine WL.val (Val.eql rfl rfl (beq_iff_eq.2 (by omega))) rfl ?_
    refine WL.val (Val.assignB rfl) rfl ?_
    refine WL.nil ?_
    refine WX.thenC ?_
    refine WC.condT rfl ?_
    refine WC.seq ?_
    refine WC.drawK 999 I11 [1] rfl (by kernel_rfl) rfl rfl ?_
    refine WA.take 0 rfl (by kernel_rfl) rfl (fun w h => (h.sub [1] rfl)) (Val.moveS rfl) rfl ?_
    refine WA.take 1 rfl (by kernel_rfl) rfl (fun w h => (h.sub [1] rfl)) (Val.fldAddr rfl) rfl ?_
    refine WA.take 2 rfl (by kernel_rfl) rfl (fun w h => (h.sub [1] rfl)) (Val.loadS rfl (Rd.own1 0 rfl rfl)) rfl ?_
    refine WA.take 6 rfl (by kernel_rfl) rfl (fun w h => (h.sub [1] rfl)) (Val.fldAddr rfl) rfl ?_
    refine WA.take 7 rfl (by kernel_rfl) rfl (fun w h => (h.sub [1] rfl)) (Val.fldAddr rfl) rfl ?_
    refine WA.take 8 rfl (by kernel_rfl) rfl (fun w h => (h.sub [1] rfl)) (Val.loadS rfl (Rd.own1 0 rfl rfl)) rfl ?_
    refine WA.eff1 (i := 3) (by kernel_rfl) rfl rfl ?_
    (refine WL.buildSlice (by with_unfolding_all exact rfl) rfl (by with_unfolding_all exact rfl) rfl ?_; intro _)
    rename_i g30
    refine WL.nApp ?_
    refine WL.freezeBox (xs := [vi c.id]) 3 rfl fun I30 hI30 hA30 => ?_
    refine WL.nil ?_
    refine WK.anyStep (fun w h => (h.sub [1] rfl).less (hI30)) ?_
    refine WA.eff1 (i := 4) (by kernel_rfl) rfl rfl ?_
    refine WL.callF rfl rfl (rInts [c.id] (.slice (some ⟨g30, 0, none⟩) 1 1) _ (litInts [c.id] hA30 ⟨hc.id, trivial⟩) (by omega)).frzB rfl fun a31 q31 I31 hI31 hB31 => ?_
    refine WL.nil ?_
    refine WK.anyStep (fun w h => (h.sub [1] rfl).less (hI30.trans hI31)) ?_
    refine WA.eff1 (i := 5) (by kernel_rfl) rfl rfl ?_
    refine WL.appB 2 rfl rfl rfl hB31 rfl (by simp only [List.length_append]; omega) rfl fun a32 q32 => ?_
    refine WL.nSet ?_
    refine WL.nil ?_
    refine WK.anyStep (fun w h => (h.sub [1] rfl).less (hI30.trans hI31)) ?_
    refine WA.eff1 (i := 9) (by kernel_rfl) rfl rfl ?_
    refine WL.callF rfl rfl (pathB c.atr.path _ _ (hN.mono (hI.trans (hI30.trans hI31))) (hc.atr.path.mono (hI.trans (hI30.trans hI31))) (by omega)).frzB rfl fun a33 q33 I33 hI33 hB33 => ?_
    refine WL.nil ?_
    refine WK.anyStep (fun w h => (h.sub [1] rfl).less ((hI30.trans hI31).trans hI33)) ?_
    refine WA.eff1 (i := 10) (by kernel_rfl) rfl rfl ?_
    refine WL.appB 2 rfl rfl rfl hB33 rfl (by simp only [List.length_append]; omega) rfl fun a34 q34 => ?_
    refine WL.nSet ?_
    refine WL.nil ?_
    refine WK.anyStep (fun w h => (h.sub [1] rfl).less ((hI30.trans hI31).trans hI33)) ?_
    refine WA.take 11 rfl (by kernel_rfl) rfl (fun w h => (h.sub [1] rfl).less ((hI30.trans hI31).trans hI33)) (Val.assignS rfl) rfl ?_
    refine WA.done (by kernel_rfl) ?_
    refine WX.thenC ?_
    refine WC.ret ?_
    refine WX.inRet ?_
    refine WX.thenRet ?_
    have hJ := hI.trans ((hI30.trans hI31).trans hI33)
    apply WX.doneP (ks := [1])
    case hres => exact RunRes.r1 rfl (ResIs.tmpS rfl)
    case hI => first | exact Mem.le.refl _ | assumption
    rfl
  by_cases k9 : c.kind = 9
  · have hw : c.w = eInts [c.kind] ++ eInts [c.id, c.i] ++ c.seg.w := by simp [Cm.w, Cm.tail, k9, eInts]
    rw [hw] at hl ⊢
    simp only [List.length_append] at hl
    refine WL.nApp ?_
    refine WL.val (Val.assignS rfl) rfl ?_
    refine WL.nil ?_
    refine WX.thenC ?_
    refine WC.seq ?_
    refine WC.seq ?_
    refine WC.region ?_
    refine WL.val (Val.fldAddr rfl) rfl ?_
    refine WL.val (Val.loadS rfl (Rd.own1 1 rfl rfl)) rfl ?_
    refine WL.nil ?_
    refine WX.thenC ?_
    refine WC.block ?_
    refine WC.seq ?_
    refine WC.region ?_
    refine WL.val (Val.eql rfl rfl (beq_eq_false_iff_ne.2 (by omega))) rfl ?_
    refine WL.val (Val.assignB rfl) rfl ?_
    refine WL.nil ?_
    refine WX.thenC ?_
    refine WC.condF rfl ?_
    refine WC.seq ?_
    refine WC.seq ?_
    refine WC.region ?_
    refine WL.val (Val.eql rfl rfl (beq_eq_false_iff_ne.2 (by omega))) rfl ?_
    refine WL.val (Val.assignB rfl) rfl ?_
    refine WL.nil ?_
    refine WX.thenC ?_
    refine WC.condF rfl ?_
    refine WC.region ?_
    refine WL.val (Val.eql rfl rfl (beq_eq_false_iff_ne.2 (by omega))) rfl ?_
    refine WL.val (Val.assignB rfl) rfl ?_
    refine WL.nil ?_
    refine WX.thenC ?_
    refine WC.condF rfl ?_
    refine WC.seq ?_
    refine WC.region ?_
    refine WL.val (Val.eql rfl rfl (beq_eq_false_iff_ne.2 (by omega))) rfl ?_
    refine WL.val (Val.assignB rfl) rfl ?_
    refine WL.nil ?_
    refine WX.thenC ?_
    refine WC.condF rfl ?_
    refine WC.seq ?_
    refine WC.region ?_
    refine WL.val (Val.eql rfl rfl (beq_eq_false_iff_ne.2 (by omega))) rfl ?_
    refine WL.val (Val.assignB rfl) rfl ?_
    refine WL.nil ?_
    refine WX.thenC ?_
    refine WC.condF rfl ?_
    refine WC.seq ?_
    refine WC.region ?_
    refine WL.val (Val.eql rfl rfl (beq_eq_false_iff_ne.2 (by omega))) rfl ?_
    refine WL.val (Val.assignB rfl) rfl ?_
    refine WL.nil ?_
    refine WX.thenC ?_
    refine WC.condF rfl ?_
    refine WC.seq ?_
    refine WC.region ?_
    refine WL.val (Val.eql rfl rfl (beq_eq_false_iff_ne.2 (by omega))) rfl ?_
    refine WL.val (Val.assignB rfl) rfl ?_
    refine WL.nil ?_
    refine WX.thenC ?_
    refine WC.condF rfl ?_
    refine WC.seq ?_
    refine WC.region ?_
    refine WL.val (Val.eql rfl rfl (beq_eq_false_iff_ne.2 (by omega))) rfl ?_
    refine WL.val (Val.assignB rfl) rfl ?_
    refine WL.nil ?_
    refine WX.thenC ?_
    refine WC.condF rfl ?_
    refine WC.seq ?_
    refine WC.region ?_
    refine WL.val (Val.eql rfl rfl (beq_iff_eq.2 (by omega))) rfl ?_
    refine WL.val (Val.assignB rfl) rfl ?_
    refine WL.nil ?_
    refine WX.thenC ?_
    refine WC.condT rfl ?_
    refine WC.seq ?_
    refine WC.drawK 999 I11 [1] rfl (by kernel_rfl) rfl rfl ?_
    refine WA.take 0 rfl (by kernel_rfl) rfl (fun w h => (h.sub [1] rfl)) (Val.moveS rfl) rfl ?_
    refine WA.take 1 rfl (by kernel_rfl) rfl (fun w h => (h.sub [1] rfl)) (Val.fldAddr rfl) rfl ?_
    refine WA.take 2 rfl (by kernel_rfl) rfl (fun w h => (h.sub [1] rfl)) (Val.loadS rfl (Rd.own1 0 rfl rfl)) rfl ?_
    refine WA.take 3 rfl (by kernel_rfl) rfl (fun w h => (h.sub [1] rfl)) (Val.fldAddr rfl) rfl ?_
    refine WA.take 4 rfl (by kernel_rfl) rfl (fun w h => (h.sub [1] rfl)) (Val.loadS rfl (Rd.own1 0 rfl rfl)) rfl ?_
    refine WA.take 8 rfl (by kernel_rfl) rfl (fun w h => (h.sub [1] rfl)) (Val.fldAddr rfl) rfl ?_
    refine WA.take 9 rfl (by kernel_rfl) rfl (fun w h => (h.sub [1] rfl)) (Val.ldO 0 rfl rfl rfl) rfl ?_
    refine WA.eff1 (i := 5) (by kernel_rfl) rfl rfl ?_
    (refine WL.buildSlice (by with_unfolding_all exact rfl) rfl (by with_unfolding_all exact rfl) rfl ?_; intro _)
    rename_i g30
    refine WL.nApp ?_
    refine WL.freezeBox (xs := [vi c.id, vi c.i]) 3 rfl fun I30 hI30 hA30 => ?_
    refine WL.nil ?_
    refine WK.anyStep (fun w h => (h.sub [1] rfl).less (hI30)) ?_
    refine WA.eff1 (i := 6) (by kernel_rfl) rfl rfl ?_
    refine WL.callF rfl rfl (rInts [c.id, c.i] (.slice (some ⟨g30, 0, none⟩) 2 2) _ (litInts [c.id, c.i] hA30 ⟨hc.id, hc.i, trivial⟩) (by omega)).frzB rfl fun a31 q31 I31 hI31 hB31 => ?_
    refine WL.nil ?_
    refine WK.anyStep (fun w h => (h.sub [1] rfl).less (hI30.trans hI31)) ?_
    refine WA.eff1 (i := 7) (by kernel_rfl) rfl rfl ?_
    refine WL.appB 2 rfl rfl rfl hB31 rfl (by simp only [List.length_append]; omega) rfl fun a32 q32 => ?_
    refine WL.nSet ?_
    refine WL.nil ?_
    refine WK.anyStep (fun w h => (h.sub [1] rfl).less (hI30.trans hI31)) ?_
    refine WA.eff1 (i := 10) (by kernel_rfl) rfl rfl ?_
    refine WL.callF rfl rfl (segB c.seg _ (hN.mono (hI.trans (hI30.trans hI31))) hc.seg).frzB rfl fun a33 q33 I33 hI33 hB33 => ?_
    refine WL.nil ?_
    refine WK.anyStep (fun w h => (h.sub [1] rfl).less ((hI30.trans hI31).trans hI33)) ?_
    refine WA.eff1 (i := 11) (by kernel_rfl) rfl rfl ?_
    refine WL.appB 2 rfl rfl rfl hB33 rfl (by simp only [List.length_append]; omega) rfl fun a34 q34 => ?_
    refine WL.nSet ?_
    refine WL.nil ?_
    refine WK.anyStep (fun w h => (h.sub [1] rfl).less ((hI30.trans hI31).trans hI33)) ?_
    refine WA.take 12 rfl (by kernel_rfl) rfl (fun w h => (h.sub [1] rfl).less ((hI30.trans hI31).trans hI33)) (Val.assignS rfl) rfl ?_
    refine WA.done (by kernel_rfl) ?_
    refine WX.thenC ?_
    refine WC.ret ?_
    refine WX.inRet ?_
    refine WX.thenRet ?_
    have hJ := hI.trans ((hI30.trans hI31).trans hI33)
    apply WX.doneP (ks := [1])
    case hres => exact RunRes.r1 rfl (ResIs.tmpS rfl)
    case hI => first | exact Mem.le.refl _ | assumption
    rfl
  by_cases k10 : c.kind = 10
  · have hw : c.w = eInts [c.kind] ++ eInts [c.id, c.i] := by simp [Cm.w, Cm.tail, k10, eInts]
    rw [hw] at hl ⊢
    simp only [List.length_append] at hl
    refine WL.nApp ?_
    refine WL.val (Val.assignS rfl) rfl ?_
    refine WL.nil ?_
    refine WX.thenC ?_
    refine WC.seq ?_
    refine WC.seq ?_
    refine WC.region ?_
    refine WL.val (Val.fldAddr rfl) rfl ?_
    refine WL.val (Val.loadS rfl (Rd.own1 1 rfl rfl)) rfl ?_
    refine WL.nil ?_
    refine WX.thenC ?_
    refine WC.block ?_
    refine WC.seq ?_
    refine WC.region ?_
    refine WL.val (Val.eql rfl rfl (beq_eq_false_iff_ne.2 (by omega))) rfl ?_
    refine WL.val (Val.assignB rfl) rfl ?_
    refine WL.nil ?_
    refine WX.thenC ?_
    refine WC.condF rfl ?_
    refine WC.seq ?_
    refine WC.seq ?_
    refine WC.region ?_
    refine WL.val (Val.eql rfl rfl (beq_eq_false_iff_ne.2 (by omega))) rfl ?_
    refine WL.val (Val.assignB rfl) rfl ?_
    refine WL.nil ?_
    refine WX.thenC ?_
    refine WC.condF rfl ?_
    refine WC.region ?_
    refine WL.val (Val.eql rfl rfl (beq_eq_false_iff_ne.2 (by omega))) rfl ?_
    refine WL.val (Val.assignB rfl) rfl ?_
    refine WL.nil ?_
    refine WX.thenC ?_
    refine WC.condF rfl ?_
    refine WC.seq ?_
    refine WC.region ?_
    refine WL.val (Val.eql rfl rfl (beq_eq_false_iff_ne.2 (by omega))) rfl ?_
    refine WL.val (Val.assignB rfl) rfl ?_
    refine WL.nil ?_
    refine WX.thenC ?_
    refine WC.condF rfl ?_
    refine WC.seq ?_
    refine WC.region ?_
    refine WL.val (Val.eql rfl rfl (beq_eq_false_iff_ne.2 (by omega))) rfl ?_
    refine WL.val (Val.assignB rfl) rfl ?_
    refine WL.nil ?_
    refine WX.thenC ?_
    refine WC.condF rfl ?_
    refine WC.seq ?_
    refine WC.region ?_
    refine WL.val (Val.eql rfl rfl (beq_eq_false_iff_ne.2 (by omega))) rfl ?_
    refine WL.val (Val.assignB rfl) rfl ?_
    refine WL.nil ?_
    refine WX.thenC ?_
    refine WC.condF rfl ?_
    refine WC.seq ?_
    refine WC.region ?_
    refine WL.val (Val.eql rfl rfl (beq_eq_false_iff_ne.2 (by omega))) rfl ?_
    refine WL.val (Val.assignB rfl) rfl ?_
    refine WL.nil ?_
    refine WX.thenC ?_
    refine WC.condF rfl ?_
    refine WC.seq ?_
    refine WC.region ?_
    refine WL.val (Val.eql rfl rfl (beq_eq_false_iff_ne.2 (by omega))) rfl ?_
    refine WL.val (Val.assignB rfl) rfl ?_
    refine WL.nil ?_
    refine WX.thenC ?_
    refine WC.condF rfl ?_
    refine WC.seq ?_
    refine WC.region ?_
    refine WL.val (Val.eql rfl rfl (beq_eq_false_iff_ne.2 (by omega))) rfl ?_
    refine WL.val (Val.assignB rfl) rfl ?_
    refine WL.nil ?_
    refine WX.thenC ?_
    refine WC.condF rfl ?_
    refine WC.seq ?_
    refine WC.region ?_
    refine WL.val (Val.eql rfl rfl (beq_eq_false_iff_ne.2 (by omega))) rfl ?_
    refine WL.val (Val.assignB rfl) rfl ?_
    refine WL.nil ?_
    refine WX.thenC ?_
    refine WC.condF rfl ?_
    refine WC.skip ?_
    refine WX.inNormal ?_
    refine WX.thenC ?_
    refine WC.seq ?_
    refine WC.region ?_
    refine WL.val (Val.moveS rfl) rfl ?_
    refine WL.val (Val.fldAddr rfl) rfl ?_
    refine WL.val (Val.loadS rfl (Rd.own1 1 rfl rfl)) rfl ?_
    refine WL.val (Val.fldAddr rfl) rfl ?_
    refine WL.val (Val.loadS rfl (Rd.own1 1 rfl rfl)) rfl ?_
    (refine WL.buildSlice (by with_unfolding_all exact rfl) rfl (by with_unfolding_all exact rfl) rfl ?_; intro _)
    refine WL.nApp ?_
    rename_i g30
    refine WL.freezeBox (xs := [vi c.id, vi c.i]) 3 rfl fun I30 hI30 hA30 => ?_
    refine WL.callF rfl rfl (rInts [c.id, c.i] (.slice (some ⟨g30, 0, none⟩) 2 2) _ (litInts [c.id, c.i] hA30 ⟨hc.id, hc.i, trivial⟩) (by omega)).frzB rfl fun a31 q31 I31 hI31 hB31 => ?_
    refine WL.appB 2 rfl rfl rfl hB31 rfl (by simp only [List.length_append]; omega) rfl fun a32 q32 => ?_
    refine WL.nSet ?_
    refine WL.val (Val.assignS rfl) rfl ?_
    refine WL.nil ?_
    refine WX.thenC ?_
    refine WC.ret ?_
    have hJ := hI.trans (hI30.trans hI31)
    apply WX.doneP (ks := [1])
    case hres => exact RunRes.r1 rfl (ResIs.tmpS rfl)
    case hI => first | exact Mem.le.refl _ | assumption
    rfl
  by_cases k11 : c.kind = 11
  · have hw : c.w = eInts [c.kind] ++ eInts [c.id, c.i, c.k, c.point.x, c.point.y] := by simp [Cm.w, Cm.tail, k11, eInts, Pt.w]
    rw [hw] at hl ⊢
    simp only [List.length_append] at hl
    refine WL.nApp ?_
    refine WL.val (Val.assignS rfl) rfl ?_
    refine WL.nil ?_
    refine WX.thenC ?_
    refine WC.seq ?_
    refine WC.seq ?_
    refine WC.region ?_
    refine WL.val (Val.fldAddr rfl) rfl ?_
    refine WL.val (Val.loadS rfl (Rd.own1 1 rfl rfl)) rfl ?_
    refine WL.nil ?_
    refine WX.thenC ?_
    refine WC.block ?_
    refine WC.seq ?_
    refine WC.region ?_
    refine WL.val (Val.eql rfl rfl (beq_eq_false_iff_ne.2 (by omega))) rfl ?_
    refine WL.val (Val.assignB rfl) rfl ?_
    refine WL.nil ?_
    refine WX.thenC ?_
    refine WC.condF rfl ?_
    refine WC.seq ?_
    refine WC.seq ?_
    refine WC.region ?_
    refine WL.val (Val.eql rfl rfl (beq_eq_false_iff_ne.2 (by omega))) rfl ?_
    refine WL.val (Val.assignB rfl) rfl ?_
    refine WL.nil ?_
    refine WX.thenC ?_
    refine WC.condF rfl ?_
    refine WC.region ?_
    refine WL.val (Val.eql rfl rfl (beq_eq_false_iff_ne.2 (by omega))) rfl ?_
    refine WL.val (Val.assignB rfl) rfl ?_
    refine WL.nil ?_
    refine WX.thenC ?_
    refine WC.condF rfl ?_
    refine WC.seq ?_
    refine WC.region ?_
    refine WL.val (Val.eql rfl rfl (beq_eq_false_iff_ne.2 (by omega))) rfl ?_
    refine WL.val (Val.assignB rfl) rfl ?_
    refine WL.nil ?_
    refine WX.thenC ?_
    refine WC.condF rfl ?_
    refine WC.seq ?_
    refine WC.region ?_
    refine WL.val (Val.eql rfl rfl (beq_eq_false_iff_ne.2 (by omega))) rfl ?_
    refine WL.val (Val.assignB rfl) rfl ?_
    refine WL.nil ?_
    refine WX.thenC ?_
    refine WC.condF rfl ?_
    refine WC.seq ?_
    refine WC.region ?_
    refine WL.val (Val.eql rfl rfl (beq_eq_false_iff_ne.2 (by omega))) rfl ?_
    refine WL.val (Val.assignB rfl) rfl ?_
    refine WL.nil ?_
    refine WX.thenC ?_
    refine WC.condF rfl ?_
    refine WC.seq ?_
    refine WC.region ?_
    refine WL.val (Val.eql rfl rfl (beq_eq_false_iff_ne.2 (by omega))) rfl ?_
    refine WL.val (Val.assignB rfl) rfl ?_
    refine WL.nil ?_
    refine WX.thenC ?_
    refine WC.condF rfl ?_
    refine WC.seq ?_
    refine WC.region ?_
    refine WL.val (Val.eql rfl rfl (beq_eq_false_iff_ne.2 (by omega))) rfl ?_
    refine WL.val (Val.assignB rfl) rfl ?_
    refine WL.nil ?_
    refine WX.thenC ?_
    refine WC.condF rfl ?_
    refine WC.seq ?_
    refine WC.region ?_
    refine WL.val (Val.eql rfl rfl (beq_eq_false_iff_ne.2 (by omega))) rfl ?_
    refine WL.val (Val.assignB rfl) rfl ?_
    refine WL.nil ?_
    refine WX.thenC ?_
    refine WC.condF rfl ?_
    refine WC.seq ?_
    refine WC.region ?_
    refine WL.val (Val.eql rfl rfl (beq_iff_eq.2 (by omega))) rfl ?_
    refine WL.val (Val.assignB rfl) rfl ?_
    refine WL.nil ?_
    refine WX.thenC ?_
    refine WC.condT rfl ?_
    refine WC.seq ?_
    refine WC.region ?_
    refine WL.val (Val.moveS rfl) rfl ?_
    refine WL.val (Val.fldAddr rfl) rfl ?_
    refine WL.val (Val.loadS rfl (Rd.own1 1 rfl rfl)) rfl ?_
    refine WL.val (Val.fldAddr rfl) rfl ?_
    refine WL.val (Val.loadS rfl (Rd.own1 1 rfl rfl)) rfl ?_
    refine WL.val (Val.fldAddr rfl) rfl ?_
    refine WL.val (Val.loadS rfl (Rd.own1 1 rfl rfl)) rfl ?_
    refine WL.val (Val.fldAddr rfl) rfl ?_
    refine WL.val (Val.fldAddr rfl) rfl ?_
    refine WL.val (Val.loadS rfl (Rd.own1 1 rfl rfl)) rfl ?_
    refine WL.val (Val.fldAddr rfl) rfl ?_
    refine WL.val (Val.fldAddr rfl) rfl ?_
    refine WL.val (Val.loadS rfl (Rd.own1 1 rfl rfl)) rfl ?_
    (refine WL.buildSlice (by with_unfolding_all exact rfl) rfl (by with_unfolding_all exact rfl) rfl ?_; intro _)
    refine WL.nApp ?_
    rename_i g30
    refine WL.freezeBox (xs := [vi c.id, vi c.i, vi c.k, vi c.point.x, vi c.point.y]) 3 rfl fun I30 hI30 hA30 => ?_
    refine WL.callF rfl rfl (rInts [c.id, c.i, c.k, c.point.x, c.point.y] (.slice (some ⟨g30, 0, none⟩) 5 5) _ (litInts [c.id, c.i, c.k, c.point.x, c.point.y] hA30 ⟨hc.id, hc.i, hc.k, hc.point.1, hc.point.2, trivial⟩) (by omega)).frzB rfl fun a31 q31 I31 hI31 hB31 => ?_
    refine WL.appB 2 rfl rfl rfl hB31 rfl (by simp only [List.length_append]; omega) rfl fun a32 q32 => ?_
    refine WL.nSet ?_
    refine WL.val (Val.assignS rfl) rfl ?_
    refine WL.nil ?_
    refine WX.thenC ?_
    refine WC.ret ?_
    refine WX.inRet ?_
    refine WX.thenRet ?_
    have hJ := hI.trans (hI30.trans hI31)
    apply WX.doneP (ks := [1])
    case hres => exact RunRes.r1 rfl (ResIs.tmpS rfl)
    case hI => first | exact Mem.le.refl _ | assumption
    rfl
  by_cases k12 : c.kind = 12
  · have hw : c.w = eInts [c.kind] ++ eInts [c.id, c.i] := by simp [Cm.w, Cm.tail, k12, eInts]
    rw [hw] at hl ⊢
    simp only [List.length_append] at hl
    refine WL.nApp ?_
    refine WL.val (Val.assignS rfl) rfl ?_
    refine WL.nil ?_
    refine WX.thenC ?_
    refine WC.seq ?_
    refine WC.seq ?_
    refine WC.region ?_
    refine WL.val (Val.fldAddr rfl) rfl ?_
    refine WL.val (Val.loadS rfl (Rd.own1 1 rfl rfl)) rfl ?_
    refine WL.nil ?_
    refine WX.thenC ?_
    refine WC.block ?_
    refine WC.seq ?_
    refine WC.region ?_
    refine WL.val (Val.eql rfl rfl (beq_eq_false_iff_ne.2 (by omega))) rfl ?_
    refine WL.val (Val.assignB rfl) rfl ?_
    refine WL.nil ?_
    refine WX.thenC ?_
    refine WC.condF rfl ?_
    refine WC.seq ?_
    refine WC.seq ?_
    refine WC.region ?_
    refine WL.val (Val.eql rfl rfl (beq_eq_false_iff_ne.2 (by omega))) rfl ?_
    refine WL.val (Val.assignB rfl) rfl ?_
    refine WL.nil ?_
    refine WX.thenC ?_
    refine WC.condF rfl ?_
    refine WC.region ?_
    refine WL.val (Val.eql rfl rfl (beq_eq_false_iff_ne.2 (by omega))) rfl ?_
    refine WL.val (Val.assignB rfl) rfl ?_
    refine WL.nil ?_
    refine WX.thenC ?_
    refine WC.condF rfl ?_
    refine WC.seq ?_
    refine WC.region ?_
    refine WL.val (Val.eql rfl rfl (beq_eq_false_iff_ne.2 (by omega))) rfl ?_
    refine WL.val (Val.assignB rfl) rfl ?_
    refine WL.nil ?_
    refine WX.thenC ?_
    refine WC.condF rfl ?_
    refine WC.seq ?_
    refine WC.region ?_
    refine WL.val (Val.eql rfl rfl (beq_eq_false_iff_ne.2 (by omega))) rfl ?_
    refine WL.val (Val.assignB rfl) rfl ?_
    refine WL.nil ?_
    refine WX.thenC ?_
    refine WC.condF rfl ?_
    refine WC.seq ?_
    refine WC.region ?_
    refine WL.val (Val.eql rfl rfl (beq_eq_false_iff_ne.2 (by omega))) rfl ?_
    refine WL.val (Val.assignB rfl) rfl ?_
    refine WL.nil ?_
    refine WX.thenC ?_
    refine WC.condF rfl ?_
    refine WC.seq ?_
    refine WC.region ?_
    refine WL.val (Val.eql rfl rfl (beq_eq_false_iff_ne.2 (by omega))) rfl ?_
    refine WL.val (Val.assignB rfl) rfl ?_
    refine WL.nil ?_
    refine WX.thenC ?_
    refine WC.condF rfl ?_
    refine WC.seq ?_
    refine WC.region ?_
    refine WL.val (Val.eql rfl rfl (beq_eq_false_iff_ne.2 (by omega))) rfl ?_
    refine WL.val (Val.assignB rfl) rfl ?_
    refine WL.nil ?_
    refine WX.thenC ?_
    refine WC.condF rfl ?_
    refine WC.seq ?_
    refine WC.region ?_
    refine WL.val (Val.eql rfl rfl (beq_eq_false_iff_ne.2 (by omega))) rfl ?_
    refine WL.val (Val.assignB rfl) rfl ?_
    refine WL.nil ?_
    refine WX.thenC ?_
    refine WC.condF rfl ?_
    refine WC.seq ?_
    refine WC.region ?_
    refine WL.val (Val.eql rfl rfl (beq_eq_false_iff_ne.2 (by omega))) rfl ?_
    refine WL.val (Val.assignB rfl) rfl ?_
    refine WL.nil ?_
    refine WX.thenC ?_
    refine WC.condF rfl ?_
    refine WC.skip ?_
    refine WX.inNormal ?_
    refine WX.thenC ?_
    refine WC.seq ?_
    refine WC.region ?_
    refine WL.val (Val.moveS rfl) rfl ?_
    refine WL.val (Val.fldAddr rfl) rfl ?_
    refine WL.val (Val.loadS rfl (Rd.own1 1 rfl rfl)) rfl ?_
    refine WL.val (Val.fldAddr rfl) rfl ?_
    refine WL.val (Val.loadS rfl (Rd.own1 1 rfl rfl)) rfl ?_
    (refine WL.buildSlice (by with_unfolding_all exact rfl) rfl (by with_unfolding_all exact rfl) rfl ?_; intro _)
    refine WL.nApp ?_
    rename_i g30
    refine WL.freezeBox (xs := [vi c.id, vi c.i]) 3 rfl fun I30 hI30 hA30 => ?_
    refine WL.callF rfl rfl (rInts [c.id, c.i] (.slice (some ⟨g30, 0, none⟩) 2 2) _ (litInts [c.id, c.i] hA30 ⟨hc.id, hc.i, trivial⟩) (by omega)).frzB rfl fun a31 q31 I31 hI31 hB31 => ?_
    refine WL.appB 2 rfl rfl rfl hB31 rfl (by simp only [List.length_append]; omega) rfl fun a32 q32 => ?_
    refine WL.nSet ?_
    refine WL.val (Val.assignS rfl) rfl ?_
    refine WL.nil ?_
    refine WX.thenC ?_
    refine WC.ret ?_
    have hJ := hI.trans (hI30.trans hI31)
    apply WX.doneP (ks := [1])
    case hres => exact RunRes.r1 rfl (ResIs.tmpS rfl)
    case hI => first | exact Mem.le.refl _ | assumption
    rfl
  omega
end Go.Proofs.YtfdeckdongonnaaDoor
