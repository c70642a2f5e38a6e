/-
  Code, the walks: writing entries.
-/
import Derived.Test.YtfdeckdongonnaaDoorC17
namespace Go.Cd
open Go.Sl
theorem Ent.w_pos (s : Ent) : 1 ≤ s.w.length := by
  have := eInt_pos s.id
  unfold Ent.w
  simp only [List.length_append]
  omega
def entsWok (l : List Ent) : Bool := !decide (65536 < (l.length : Int)) && l.all fun x => x.atr.wok
end Go.Cd
namespace Go.Proofs.YtfdeckdongonnaaDoor
open Go.Sl Go.Cd
set_option maxRecDepth 100000
set_option maxHeartbeats 4000000
set_option linter.unusedVariables false
attribute [local irreducible] WC WL WX WK WA WAK Val Ctr RunRes ResIs Rd At sl box pt Exit.then Exit.inBlock bodyPost Code.wp wpList
/-- (*out).entries -/
theorem oentries_ctr (o : Nat) (l : List Ent) (v : Value) (sv : Value) (bad : Bool) (bs : Bs) (I : Mem) (hN : NeedAt I) (hv : LsAt Ent.rep I l v) (hl : (bs ++ lw Ent.w l).length ≤ 1099511627776) :
    Ctr Tryd.prog 47 [ptr o, v] I (outL o sv bad bs) (WrP o (lw Ent.w l) (bad || !entsWok l) bs) := by
  obtain ⟨a1, q1, rfl⟩ := hv.sl
  have hb : ∀ k, (bs ++ eInt l.length ++ lk Ent.w l k).length ≤ 1099511627776 := by
    intro k
    have h1 := lk_le Ent.w l k
    simp only [lw, List.length_append] at hl ⊢
    omega
  have hb0 := hb 0
  have hb1 := hb l.length
  rw [lk_all] at hb1
  simp only [List.length_append] at hb0 hb1
  have hlen := list_len Ent.w Ent.w_pos l
  refine Ctr.intro Tryd.func47 rfl rfl rfl fun E F => ?_
  refine WC.seq ?_
  refine WC.region ?_
  refine WL.val (Val.moveP rfl) rfl ?_
  refine WL.val (Val.moveS rfl) rfl ?_
  refine WL.val (Val.len rfl) rfl ?_
  refine WL.callP [1, 1] rfl rfl (ocount_ctr o l.length 65536 sv bad _ _ ⟨by omega, by omega⟩ (by omega)) rfl ?_
  rintro _ I1 _ hI1 ⟨sv1, rfl⟩
  refine WL.nApp ?_
  refine WL.nil ?_
  refine WX.thenC ?_
  refine WC.seq ?_
  refine WC.region ?_
  refine WL.val (Val.moveS rfl) rfl ?_
  refine WL.val (Val.len rfl) rfl ?_
  refine WL.val (Val.moveI rfl) rfl ?_
  refine WL.nil ?_
  refine WX.thenC ?_
  refine WC.block ?_
  refine WC.loop (fun m ρ' I' L' => ∃ k : Nat, ∃ sv', m = l.length - k ∧ k ≤ l.length ∧ I1.le I' ∧ ρ' 0 = ptr o ∧ ρ' 11 = .slice a1 l.length q1 ∧ ρ' 12 = vi l.length ∧ ρ' 13 = vi k ∧
      L' = F :: outL o sv' (bad || decide (65536 < (l.length : Int)) || !(l.take k).all fun x => x.atr.wok) (bs ++ eInt l.length ++ lk Ent.w l k))
    l.length ⟨0, sv1, rfl, by omega, Mem.le.refl _, rfl, rfl, rfl, rfl, by rw [lk_zero, List.append_nil]; simp⟩ ?_
  rintro m ρ' I5 L' ⟨k, sv', rfl, hk, hI5, h0, h11, h12, h13, rfl⟩
  rw [← upd_self h13, ← upd_self h12, ← upd_self h11, ← upd_self h0]
  clear h13 h12 h11 h0
  have hst := (hv.mono hI1).mono hI5
  have hN5 := (hN.mono hI1).mono hI5
  by_cases hkn : k < l.length
  · obtain ⟨b, off, cap', cs, he, ⟨t1, t2, t3, t4, rfl, hi⟩, hA⟩ := hst.get k hkn
    cases he
    obtain ⟨b1, r1, b2, r2, b3, r3, b4, r4, rfl, rfl, rfl, rfl⟩ := hi.sl
    have hs := lk_succ Ent.w l k hkn
    have hb2 := hb (k + 1)
    rw [hs, ← List.append_assoc] at hb2
    generalize hx : l[k] = x at *
    have hxw : x.w = eInts [x.id, if x.grp then 1 else 0, x.kids] ++ x.atr.w := by simp only [Ent.w, eInts3, List.append_assoc]
    rw [hxw, ← List.append_assoc] at hb2
    have hb3 := hb2
    simp only [List.length_append] at hb3
    obtain ⟨id, grp, kids, atr⟩ := x
    simp only at hxw hb2 hb3
    cases grp
    · skip
      refine WC.seq ?_
      refine WC.region ?_
      refine WL.val (Val.lss rfl rfl (decide_eq_true (by omega))) rfl ?_
      refine WL.nil ?_
      refine WX.thenC ?_
      refine WC.seq ?_
      refine WC.condT rfl ?_
      refine WC.skip ?_
      refine WX.thenC ?_
      refine WC.seq ?_
      refine WC.block ?_
      refine WC.seq ?_
      refine WC.region ?_
      refine WL.val (Val.indexAddr rfl rfl (by omega) (by omega)) rfl ?_
      refine WL.val (Val.loadI rfl (by assumption) rfl) rfl ?_
      (refine WL.alloc rfl ?_; intro _)
      refine WL.nApp ?_
      refine WL.stA 3 rfl rfl rfl rfl ?_
      refine WL.nil ?_
      refine WX.thenC ?_
      refine WC.seq ?_
      refine WC.region ?_
      refine WL.val (Val.assignI rfl) rfl ?_
      refine WL.nil ?_
      refine WX.thenC ?_
      refine WC.seq ?_
      refine WC.seq ?_
      refine WC.region ?_
      refine WL.val (Val.fldAddr rfl) rfl ?_
      refine WL.val (Val.loadS rfl (Rd.own1 3 rfl rfl)) rfl ?_
      refine WL.nil ?_
      refine WX.thenC ?_
      refine WC.condF rfl ?_
      refine WC.skip ?_
      refine WX.thenC ?_
      refine WC.seq ?_
      refine WC.region ?_
      refine WL.val (Val.moveP rfl) rfl ?_
      refine WL.val (Val.fldAddr rfl) rfl ?_
      refine WL.val (Val.loadS rfl (Rd.own1 3 rfl rfl)) rfl ?_
      refine WL.val (Val.moveI rfl) rfl ?_
      refine WL.val (Val.fldAddr rfl) rfl ?_
      refine WL.val (Val.loadS rfl (Rd.own1 3 rfl rfl)) rfl ?_
      (refine WL.buildSlice (by with_unfolding_all exact rfl) rfl (by with_unfolding_all exact rfl) rfl ?_; intro _)
      refine WL.nApp ?_
      rename_i h
      refine WL.freezeBox (xs := [vi id, vi 0, vi kids]) 4 rfl fun I6 hI6 hA6 => ?_
      refine WL.callP [1, 1] rfl rfl (ints_ctr o (.slice (some ⟨h, 0, none⟩) 3 3) [id, 0, kids] sv' _ _ _ (litInts _ hA6 ⟨hi.id, ⟨by decide, by decide⟩, hi.kids, trivial⟩) (by simp at hb3; simp only [List.length_append]; omega)) rfl ?_
      rintro _ I7 _ hI7 ⟨sv7, rfl⟩
      refine WL.nApp ?_
      refine WL.nil ?_
      refine WX.thenC ?_
      refine WC.region ?_
      refine WL.val (Val.moveP rfl) rfl ?_
      refine WL.val (Val.fldAddr rfl) rfl ?_
      refine WL.val (Val.ldO 1 rfl rfl rfl) rfl ?_
      refine WL.callP [2, 2] rfl rfl (oattr_ctr o atr _ _ _ _ sv7 _ _ _ ((hN5.mono hI6).mono hI7) ((hi.atr.mono hI6).mono hI7) (by simpa using hb2)) rfl ?_
      rintro _ I8 _ hI8 ⟨sv8, rfl⟩
      refine WL.nApp ?_
      refine WL.nil ?_
      refine WX.inNormal ?_
      refine WX.thenC ?_
      refine WC.region ?_
      refine WL.val (Val.add rfl rfl (wrap_i64 (by omega) (by omega))) rfl ?_
      refine WL.val (Val.moveI rfl) rfl ?_
      refine WL.nil ?_
      refine WX.conv (fun w h => h.sub [0, 1, 1] rfl) ?_
      refine WX.thenK (WK.round (l.length - (k + 1)) (by omega) ⟨k + 1, sv8, rfl, by omega, ((hI5.trans hI6).trans hI7).trans hI8, rfl, rfl, rfl, rfl, ?_⟩)
      rw [hs, ← List.append_assoc, List.take_succ_eq_append_getElem hkn, hx, hxw, List.all_append]
      rw [show (bad || decide (65536 < (l.length : Int)) || !((l.take k).all (fun x => x.atr.wok) && [(⟨id, false, kids, atr⟩ : Ent)].all fun x => x.atr.wok)) = ((bad || decide (65536 < (l.length : Int)) || !(l.take k).all fun x => x.atr.wok) || !atr.wok) by simp [Bool.or_assoc]]
      rw [← List.append_assoc]
      rfl
    · skip
      refine WC.seq ?_
      refine WC.region ?_
      refine WL.val (Val.lss rfl rfl (decide_eq_true (by omega))) rfl ?_
      refine WL.nil ?_
      refine WX.thenC ?_
      refine WC.seq ?_
      refine WC.condT rfl ?_
      refine WC.skip ?_
      refine WX.thenC ?_
      refine WC.seq ?_
      refine WC.block ?_
      refine WC.seq ?_
      refine WC.region ?_
      refine WL.val (Val.indexAddr rfl rfl (by omega) (by omega)) rfl ?_
      refine WL.val (Val.loadI rfl (by assumption) rfl) rfl ?_
      (refine WL.alloc rfl ?_; intro _)
      refine WL.nApp ?_
      refine WL.stA 3 rfl rfl rfl rfl ?_
      refine WL.nil ?_
      refine WX.thenC ?_
      refine WC.seq ?_
      refine WC.region ?_
      refine WL.val (Val.assignI rfl) rfl ?_
      refine WL.nil ?_
      refine WX.thenC ?_
      refine WC.seq ?_
      refine WC.seq ?_
      refine WC.region ?_
      refine WL.val (Val.fldAddr rfl) rfl ?_
      refine WL.val (Val.loadS rfl (Rd.own1 3 rfl rfl)) rfl ?_
      refine WL.nil ?_
      refine WX.thenC ?_
      refine WC.condT rfl ?_
      refine WC.region ?_
      refine WL.val (Val.assignI rfl) rfl ?_
      refine WL.nil ?_
      refine WX.thenC ?_
      refine WC.seq ?_
      refine WC.region ?_
      refine WL.val (Val.moveP rfl) rfl ?_
      refine WL.val (Val.fldAddr rfl) rfl ?_
      refine WL.val (Val.loadS rfl (Rd.own1 3 rfl rfl)) rfl ?_
      refine WL.val (Val.moveI rfl) rfl ?_
      refine WL.val (Val.fldAddr rfl) rfl ?_
      refine WL.val (Val.loadS rfl (Rd.own1 3 rfl rfl)) rfl ?_
      (refine WL.buildSlice (by with_unfolding_all exact rfl) rfl (by with_unfolding_all exact rfl) rfl ?_; intro _)
      refine WL.nApp ?_
      rename_i h
      refine WL.freezeBox (xs := [vi id, vi 1, vi kids]) 4 rfl fun I6 hI6 hA6 => ?_
      refine WL.callP [1, 1] rfl rfl (ints_ctr o (.slice (some ⟨h, 0, none⟩) 3 3) [id, 1, kids] sv' _ _ _ (litInts _ hA6 ⟨hi.id, ⟨by decide, by decide⟩, hi.kids, trivial⟩) (by simp at hb3; simp only [List.length_append]; omega)) rfl ?_
      rintro _ I7 _ hI7 ⟨sv7, rfl⟩
      refine WL.nApp ?_
      refine WL.nil ?_
      refine WX.thenC ?_
      refine WC.region ?_
      refine WL.val (Val.moveP rfl) rfl ?_
      refine WL.val (Val.fldAddr rfl) rfl ?_
      refine WL.val (Val.ldO 1 rfl rfl rfl) rfl ?_
      refine WL.callP [2, 2] rfl rfl (oattr_ctr o atr _ _ _ _ sv7 _ _ _ ((hN5.mono hI6).mono hI7) ((hi.atr.mono hI6).mono hI7) (by simpa using hb2)) rfl ?_
      rintro _ I8 _ hI8 ⟨sv8, rfl⟩
      refine WL.nApp ?_
      refine WL.nil ?_
      refine WX.inNormal ?_
      refine WX.thenC ?_
      refine WC.region ?_
      refine WL.val (Val.add rfl rfl (wrap_i64 (by omega) (by omega))) rfl ?_
      refine WL.val (Val.moveI rfl) rfl ?_
      refine WL.nil ?_
      refine WX.conv (fun w h => h.sub [0, 1, 1] rfl) ?_
      refine WX.thenK (WK.round (l.length - (k + 1)) (by omega) ⟨k + 1, sv8, rfl, by omega, ((hI5.trans hI6).trans hI7).trans hI8, rfl, rfl, rfl, rfl, ?_⟩)
      rw [hs, ← List.append_assoc, List.take_succ_eq_append_getElem hkn, hx, hxw, List.all_append]
      rw [show (bad || decide (65536 < (l.length : Int)) || !((l.take k).all (fun x => x.atr.wok) && [(⟨id, true, kids, atr⟩ : Ent)].all fun x => x.atr.wok)) = ((bad || decide (65536 < (l.length : Int)) || !(l.take k).all fun x => x.atr.wok) || !atr.wok) by simp [Bool.or_assoc]]
      rw [← List.append_assoc]
      rfl
  · skip
    refine WC.seq ?_
    refine WC.region ?_
    refine WL.val (Val.lss rfl rfl (decide_eq_false (by omega))) rfl ?_
    refine WL.nil ?_
    refine WX.thenC ?_
    refine WC.seq ?_
    refine WC.condF rfl ?_
    refine WC.exit ?_
    refine WX.thenExit ?_
    refine WX.thenExit ?_
    refine WX.inHit ?_
    have hI := hI1.trans hI5
    apply WX.doneN (ks := [0, 0])
    case hres => exact RunRes.r0 rfl
    case hp => rfl
    case hI => first | exact Mem.le.refl _ | assumption
    obtain rfl : k = l.length := by omega
    refine ⟨sv', ?_⟩
    rw [List.take_length, lk_all, lw, ← List.append_assoc, show (bad || !entsWok l) = (bad || decide (65536 < (l.length : Int)) || !l.all fun x => x.atr.wok) by
      unfold entsWok
      cases bad <;> cases decide (65536 < (l.length : Int)) <;> cases (l.all fun x => x.atr.wok) <;> rfl]
end Go.Proofs.YtfdeckdongonnaaDoor
