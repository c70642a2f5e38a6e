/-
  Code, the walks: paints, styles, segments, paths.
-/
import Derived.Test.YtfdeckdongonnaaDoorC4
namespace Go.Proofs.YtfdeckdongonnaaDoor
open Go.Sl Go.Cd
set_option maxRecDepth 100000
set_option maxHeartbeats 4000000
set_option linter.unusedVariables false
attribute [local irreducible] WC WL WX WK WA WAK Val Ctr RunRes ResIs Rd At sl box pt Exit.then Exit.inBlock bodyPost Code.wp wpList
theorem paint_ctr (c b : Nat) (sv : Value) (b2 b1 : Bool) (bs : Bs) (I : Mem) (hN : NeedAt I) (hb : Byt I sv bs) :
    Ctr Tryd.prog 81 [ptr c] I (inL c b sv b2 b1) (RdP agg Pnt.rep Pnt.w Pnt.plain c b (st b1 b2 bs)) := by
  refine Ctr.intro Tryd.func81 rfl rfl rfl fun E F => ?_
  refine WC.seq ?_
  refine WC.region ?_
  (refine WL.alloc rfl ?_; intro _)
  refine WL.nApp ?_
  refine WL.nil ?_
  refine WX.thenC ?_
  refine WC.seq ?_
  refine WC.region ?_
  refine WL.val (Val.moveP rfl) rfl ?_
  refine WL.val (Val.nilCheckP rfl) rfl ?_
  refine WL.val (Val.fldAddr rfl) rfl ?_
  refine WL.val (Val.loadS rfl (Rd.own1 1 rfl rfl)) rfl ?_
  refine WL.callP [2] rfl rfl (inInt b sv b1 bs I hb) rfl ?_
  rintro _ I0 _ - ⟨rfl, n, sv1, c1, bs1, rfl, hn, rfl, hB1, hR1⟩
  have hpick : ∀ {z : Pnt} {s2 : Option Bs}, Reads (fun p : Pnt => if p.kind = 1 then p.col.w else if p.kind = 2 ∨ p.kind = 3 then p.frm.w ++ p.to.w ++ lw Stp.w p.stops else []) (fun p => p.plain ∧ p.kind = n) (st c1 b2 bs1) z s2 → Reads Pnt.w Pnt.plain (st b1 b2 bs) z s2 :=
    fun h => (hR1.lift b2).pick Pnt.kind _ (fun p hp => ⟨rfl, by unfold Pnt.plain at hp; unfold I64; omega⟩) h
  by_cases h0 : n = 0
  · subst h0
    refine WL.nApp ?_
    refine WL.val (Val.fldAddr rfl) rfl ?_
    refine WL.stI 2 rfl rfl rfl rfl ?_
    refine WL.nil ?_
    refine WX.thenC ?_
    refine WC.seq ?_
    refine WC.seq ?_
    refine WC.region ?_
    refine WL.val (Val.fldAddr rfl) rfl ?_
    refine WL.val (Val.loadS rfl (Rd.own1 2 rfl rfl)) rfl ?_
    refine WL.nil ?_
    refine WX.thenC ?_
    refine WC.block ?_
    refine WC.seq ?_
    refine WC.region ?_
    refine WL.val (Val.eql rfl rfl (beq_iff_eq.2 (by omega))) rfl ?_
    refine WL.val (Val.assignB rfl) rfl ?_
    refine WL.nil ?_
    refine WX.thenC ?_
    refine WC.condT rfl ?_
    refine WC.skip ?_
    refine WX.inNormal ?_
    refine WX.thenC ?_
    refine WC.seq ?_
    refine WC.region ?_
    refine WL.val (Val.ldO 2 rfl rfl rfl) rfl ?_
    refine WL.stA 2 rfl rfl rfl rfl ?_
    refine WL.nil ?_
    refine WX.thenC ?_
    refine WC.ret ?_
    apply WX.doneP (ks := [0, 1])
    case hres => exact RunRes.r1 rfl (ResIs.cellL 2 rfl rfl rfl)
    case hI => first | exact Mem.le.refl _ | assumption
    refine ⟨Pnt.z, _, sv1, b2, c1, bs1, rfl, ⟨_, rfl, Pnt.z_at _⟩, rfl, hB1, hpick (Reads.one ⟨.inl ⟨rfl, rfl, rfl, rfl, rfl⟩, rfl⟩ ?_)⟩
    rintro ⟨k, cl, f, t, l⟩ ⟨hp, rfl⟩
    rcases hp with ⟨_, rfl, rfl, rfl, rfl⟩ | ⟨h, _⟩ | ⟨h, _⟩
    · exact ⟨rfl, rfl⟩
    · cases h
    · rcases h with h | h <;> cases h
  by_cases h1 : n = 1
  · subst h1
    refine WL.nApp ?_
    refine WL.val (Val.fldAddr rfl) rfl ?_
    refine WL.stI 2 rfl rfl rfl rfl ?_
    refine WL.nil ?_
    refine WX.thenC ?_
    refine WC.seq ?_
    refine WC.seq ?_
    refine WC.region ?_
    refine WL.val (Val.fldAddr rfl) rfl ?_
    refine WL.val (Val.loadS rfl (Rd.own1 2 rfl rfl)) rfl ?_
    refine WL.nil ?_
    refine WX.thenC ?_
    refine WC.block ?_
    refine WC.seq ?_
    refine WC.region ?_
    refine WL.val (Val.eql rfl rfl (beq_eq_false_iff_ne.2 (by omega))) rfl ?_
    refine WL.val (Val.assignB rfl) rfl ?_
    refine WL.nil ?_
    refine WX.thenC ?_
    refine WC.condF rfl ?_
    refine WC.seq ?_
    refine WC.region ?_
    refine WL.val (Val.eql rfl rfl (beq_iff_eq.2 (by omega))) rfl ?_
    refine WL.val (Val.assignB rfl) rfl ?_
    refine WL.nil ?_
    refine WX.thenC ?_
    refine WC.condT rfl ?_
    refine WC.region ?_
    refine WL.val (Val.moveP rfl) rfl ?_
    refine WL.callP [1, 2] rfl rfl (color_ctr c b sv1 b2 c1 bs1 _ hB1) rfl ?_
    rintro _ I1 _ hI ⟨x, _, sv2, d2, c2, bs2, rfl, rfl, rfl, hB2, hR2⟩
    refine WL.nApp ?_
    refine WL.val (Val.fldAddr rfl) rfl ?_
    refine WL.stA 1 rfl rfl rfl rfl ?_
    refine WL.nil ?_
    refine WX.inNormal ?_
    refine WX.thenC ?_
    refine WC.seq ?_
    refine WC.region ?_
    refine WL.val (Val.ldO 1 rfl rfl rfl) rfl ?_
    refine WL.stA 1 rfl rfl rfl rfl ?_
    refine WL.nil ?_
    refine WX.thenC ?_
    refine WC.ret ?_
    apply WX.doneP (ks := [1, 1])
    case hres => exact RunRes.r1 rfl (ResIs.cellL 1 rfl rfl rfl)
    case hI => first | exact Mem.le.refl _ | assumption
    refine ⟨⟨1, x, Pt.z, Pt.z, []⟩, _, sv2, d2, c2, bs2, rfl, ⟨_, rfl, ⟨hn, Pt.z_ok, Pt.z_ok, LsAt.nil _ _⟩⟩, rfl, hB2, hpick (hR2.map Pnt.col ?_ ?_ ?_)⟩
    · rintro p ⟨hp, hk⟩
      rw [if_pos hk]
      exact ⟨rfl, trivial⟩
    · exact fun _ => ⟨⟨.inr (.inl ⟨rfl, rfl, rfl, rfl⟩), rfl⟩, rfl⟩
    · rintro ⟨k, cl, f, t, l⟩ ⟨hp, rfl⟩ rfl
      rcases hp with ⟨h, _⟩ | ⟨_, rfl, rfl, rfl⟩ | ⟨h, _⟩
      · cases h
      · rfl
      · rcases h with h | h <;> cases h
  by_cases h2 : n = 2
  · subst h2
    refine WL.nApp ?_
    refine WL.val (Val.fldAddr rfl) rfl ?_
    refine WL.stI 2 rfl rfl rfl rfl ?_
    refine WL.nil ?_
    refine WX.thenC ?_
    refine WC.seq ?_
    refine WC.seq ?_
    refine WC.region ?_
    refine WL.val (Val.fldAddr rfl) rfl ?_
    refine WL.val (Val.loadS rfl (Rd.own1 2 rfl rfl)) rfl ?_
    refine WL.nil ?_
    refine WX.thenC ?_
    refine WC.block ?_
    refine WC.seq ?_
    refine WC.region ?_
    refine WL.val (Val.eql rfl rfl (beq_eq_false_iff_ne.2 (by omega))) rfl ?_
    refine WL.val (Val.assignB rfl) rfl ?_
    refine WL.nil ?_
    refine WX.thenC ?_
    refine WC.condF rfl ?_
    refine WC.seq ?_
    refine WC.region ?_
    refine WL.val (Val.eql rfl rfl (beq_eq_false_iff_ne.2 (by omega))) rfl ?_
    refine WL.val (Val.assignB rfl) rfl ?_
    refine WL.nil ?_
    refine WX.thenC ?_
    refine WC.condF rfl ?_
    refine WC.seq ?_
    refine WC.seq ?_
    refine WC.region ?_
    refine WL.val (Val.eql rfl rfl (beq_iff_eq.2 (by omega))) rfl ?_
    refine WL.val (Val.assignB rfl) rfl ?_
    refine WL.nil ?_
    refine WX.thenC ?_
    refine WC.condT rfl ?_
    refine WC.skip ?_
    refine WX.thenC ?_
    refine WC.condT rfl ?_
    refine WC.seq ?_
    refine WC.region ?_
    refine WL.val (Val.moveP rfl) rfl ?_
    refine WL.callP [1, 2] rfl rfl (point_ctr c b sv1 b2 c1 bs1 _ hB1) rfl ?_
    rintro _ I1 _ hI1 ⟨x, _, sv2, d2, c2, bs2, rfl, ⟨rfl, hx⟩, rfl, hB2, hR2⟩
    refine WL.nApp ?_
    refine WL.val (Val.fldAddr rfl) rfl ?_
    refine WL.stA 1 rfl rfl rfl rfl ?_
    refine WL.nil ?_
    refine WX.thenC ?_
    refine WC.seq ?_
    refine WC.region ?_
    refine WL.val (Val.moveP rfl) rfl ?_
    refine WL.callP [2, 2] rfl rfl (point_ctr c b sv2 d2 c2 bs2 _ hB2) rfl ?_
    rintro _ I2 _ hI2 ⟨y, _, sv3, d3, c3, bs3, rfl, ⟨rfl, hy⟩, rfl, hB3, hR3⟩
    refine WL.nApp ?_
    refine WL.val (Val.fldAddr rfl) rfl ?_
    refine WL.stA 1 rfl rfl rfl rfl ?_
    refine WL.nil ?_
    refine WX.thenC ?_
    refine WC.region ?_
    refine WL.val (Val.moveP rfl) rfl ?_
    refine WL.val (Val.moveP rfl) rfl ?_
    refine WL.val Val.makeFuncL rfl ?_
    refine WL.callP [2, 2] rfl rfl (listStp 92 (ptr c) c b Stp.w (fun s => I64 s.pos) (fun sv b2 b1 bs I _ h => stop_ctr c b sv b2 b1 bs I h) 16 (by decide) (by decide) sv3 d3 c3 bs3 _ ((hN.mono hI1).mono hI2) hB3) rfl ?_
    rintro _ I3 _ hI3 ⟨l, sv4, d4, c4, bs4, hl, rfl, hB4, hR4⟩
    obtain ⟨a5, k5, rfl⟩ := hl.sl
    refine WL.nApp ?_
    refine WL.val (Val.fldAddr rfl) rfl ?_
    refine WL.stS 1 rfl rfl rfl rfl ?_
    refine WL.nil ?_
    refine WX.inNormal ?_
    refine WX.thenC ?_
    refine WC.seq ?_
    refine WC.region ?_
    refine WL.val (Val.ldO 1 rfl rfl rfl) rfl ?_
    refine WL.stA 1 rfl rfl rfl rfl ?_
    refine WL.nil ?_
    refine WX.thenC ?_
    refine WC.ret ?_
    have hI : I0.le I3 := (hI1.trans hI2).trans hI3
    apply WX.doneP (ks := [1, 1])
    case hres => exact RunRes.r1 rfl (ResIs.cellL 1 rfl rfl rfl)
    case hI => first | exact Mem.le.refl _ | assumption
    refine ⟨⟨2, Col.z, x, y, l⟩, _, sv4, d4, c4, bs4, rfl, ⟨_, rfl, ⟨hn, hx, hy, hl⟩⟩, rfl, hB4, hpick (((hR2.two hR3).two hR4).map (fun p => ((p.frm, p.to), p.stops)) ?_ ?_ ?_)⟩
    · rintro ⟨k, cl, f, t, l⟩ ⟨hp, rfl⟩
      rcases hp with ⟨h, _⟩ | ⟨h, _⟩ | ⟨_, h1, h2, h3, h4, h5⟩
      · cases h
      · cases h
      · exact ⟨rfl, ⟨h3, h4⟩, Int.ofNat_le.2 h2, h5⟩
    · rintro ⟨⟨o1, o2⟩, o3, o4⟩
      exact ⟨⟨.inr (.inr ⟨by first | exact .inl rfl | exact .inr rfl, rfl, Int.ofNat_le.1 o3, o1, o2, o4⟩), rfl⟩, rfl⟩
    · rintro ⟨k, cl, f, t, l⟩ ⟨hp, rfl⟩ h
      cases h
      rcases hp with ⟨h, _⟩ | ⟨h, _⟩ | ⟨_, rfl, _⟩
      · cases h
      · cases h
      · rfl
  by_cases h3 : n = 3
  · subst h3
    refine WL.nApp ?_
    refine WL.val (Val.fldAddr rfl) rfl ?_
    refine WL.stI 2 rfl rfl rfl rfl ?_
    refine WL.nil ?_
    refine WX.thenC ?_
    refine WC.seq ?_
    refine WC.seq ?_
    refine WC.region ?_
    refine WL.val (Val.fldAddr rfl) rfl ?_
    refine WL.val (Val.loadS rfl (Rd.own1 2 rfl rfl)) rfl ?_
    refine WL.nil ?_
    refine WX.thenC ?_
    refine WC.block ?_
    refine WC.seq ?_
    refine WC.region ?_
    refine WL.val (Val.eql rfl rfl (beq_eq_false_iff_ne.2 (by omega))) rfl ?_
    refine WL.val (Val.assignB rfl) rfl ?_
    refine WL.nil ?_
    refine WX.thenC ?_
    refine WC.condF rfl ?_
    refine WC.seq ?_
    refine WC.region ?_
    refine WL.val (Val.eql rfl rfl (beq_eq_false_iff_ne.2 (by omega))) rfl ?_
    refine WL.val (Val.assignB rfl) rfl ?_
    refine WL.nil ?_
    refine WX.thenC ?_
    refine WC.condF rfl ?_
    refine WC.seq ?_
    refine WC.seq ?_
    refine WC.region ?_
    refine WL.val (Val.eql rfl rfl (beq_eq_false_iff_ne.2 (by omega))) rfl ?_
    refine WL.val (Val.assignB rfl) rfl ?_
    refine WL.nil ?_
    refine WX.thenC ?_
    refine WC.condF rfl ?_
    refine WC.region ?_
    refine WL.val (Val.eql rfl rfl (beq_iff_eq.2 (by omega))) rfl ?_
    refine WL.val (Val.assignB rfl) rfl ?_
    refine WL.nil ?_
    refine WX.thenC ?_
    refine WC.condT rfl ?_
    refine WC.seq ?_
    refine WC.region ?_
    refine WL.val (Val.moveP rfl) rfl ?_
    refine WL.callP [1, 2] rfl rfl (point_ctr c b sv1 b2 c1 bs1 _ hB1) rfl ?_
    rintro _ I1 _ hI1 ⟨x, _, sv2, d2, c2, bs2, rfl, ⟨rfl, hx⟩, rfl, hB2, hR2⟩
    refine WL.nApp ?_
    refine WL.val (Val.fldAddr rfl) rfl ?_
    refine WL.stA 1 rfl rfl rfl rfl ?_
    refine WL.nil ?_
    refine WX.thenC ?_
    refine WC.seq ?_
    refine WC.region ?_
    refine WL.val (Val.moveP rfl) rfl ?_
    refine WL.callP [2, 2] rfl rfl (point_ctr c b sv2 d2 c2 bs2 _ hB2) rfl ?_
    rintro _ I2 _ hI2 ⟨y, _, sv3, d3, c3, bs3, rfl, ⟨rfl, hy⟩, rfl, hB3, hR3⟩
    refine WL.nApp ?_
    refine WL.val (Val.fldAddr rfl) rfl ?_
    refine WL.stA 1 rfl rfl rfl rfl ?_
    refine WL.nil ?_
    refine WX.thenC ?_
    refine WC.region ?_
    refine WL.val (Val.moveP rfl) rfl ?_
    refine WL.val (Val.moveP rfl) rfl ?_
    refine WL.val Val.makeFuncL rfl ?_
    refine WL.callP [2, 2] rfl rfl (listStp 92 (ptr c) c b Stp.w (fun s => I64 s.pos) (fun sv b2 b1 bs I _ h => stop_ctr c b sv b2 b1 bs I h) 16 (by decide) (by decide) sv3 d3 c3 bs3 _ ((hN.mono hI1).mono hI2) hB3) rfl ?_
    rintro _ I3 _ hI3 ⟨l, sv4, d4, c4, bs4, hl, rfl, hB4, hR4⟩
    obtain ⟨a5, k5, rfl⟩ := hl.sl
    refine WL.nApp ?_
    refine WL.val (Val.fldAddr rfl) rfl ?_
    refine WL.stS 1 rfl rfl rfl rfl ?_
    refine WL.nil ?_
    refine WX.inNormal ?_
    refine WX.thenC ?_
    refine WC.seq ?_
    refine WC.region ?_
    refine WL.val (Val.ldO 1 rfl rfl rfl) rfl ?_
    refine WL.stA 1 rfl rfl rfl rfl ?_
    refine WL.nil ?_
    refine WX.thenC ?_
    refine WC.ret ?_
    have hI : I0.le I3 := (hI1.trans hI2).trans hI3
    apply WX.doneP (ks := [1, 1])
    case hres => exact RunRes.r1 rfl (ResIs.cellL 1 rfl rfl rfl)
    case hI => first | exact Mem.le.refl _ | assumption
    refine ⟨⟨3, Col.z, x, y, l⟩, _, sv4, d4, c4, bs4, rfl, ⟨_, rfl, ⟨hn, hx, hy, hl⟩⟩, rfl, hB4, hpick (((hR2.two hR3).two hR4).map (fun p => ((p.frm, p.to), p.stops)) ?_ ?_ ?_)⟩
    · rintro ⟨k, cl, f, t, l⟩ ⟨hp, rfl⟩
      rcases hp with ⟨h, _⟩ | ⟨h, _⟩ | ⟨_, h1, h2, h3, h4, h5⟩
      · cases h
      · cases h
      · exact ⟨rfl, ⟨h3, h4⟩, Int.ofNat_le.2 h2, h5⟩
    · rintro ⟨⟨o1, o2⟩, o3, o4⟩
      exact ⟨⟨.inr (.inr ⟨by first | exact .inl rfl | exact .inr rfl, rfl, Int.ofNat_le.1 o3, o1, o2, o4⟩), rfl⟩, rfl⟩
    · rintro ⟨k, cl, f, t, l⟩ ⟨hp, rfl⟩ h
      cases h
      rcases hp with ⟨h, _⟩ | ⟨h, _⟩ | ⟨_, rfl, _⟩
      · cases h
      · cases h
      · rfl
  · skip
    refine WL.nApp ?_
    refine WL.val (Val.fldAddr rfl) rfl ?_
    refine WL.stI 2 rfl rfl rfl rfl ?_
    refine WL.nil ?_
    refine WX.thenC ?_
    refine WC.seq ?_
    refine WC.seq ?_
    refine WC.region ?_
    refine WL.val (Val.fldAddr rfl) rfl ?_
    refine WL.val (Val.loadS rfl (Rd.own1 2 rfl rfl)) rfl ?_
    refine WL.nil ?_
    refine WX.thenC ?_
    refine WC.block ?_
    refine WC.seq ?_
    refine WC.region ?_
    refine WL.val (Val.eql rfl rfl (beq_eq_false_iff_ne.2 (by omega))) rfl ?_
    refine WL.val (Val.assignB rfl) rfl ?_
    refine WL.nil ?_
    refine WX.thenC ?_
    refine WC.condF rfl ?_
    refine WC.seq ?_
    refine WC.region ?_
    refine WL.val (Val.eql rfl rfl (beq_eq_false_iff_ne.2 (by omega))) rfl ?_
    refine WL.val (Val.assignB rfl) rfl ?_
    refine WL.nil ?_
    refine WX.thenC ?_
    refine WC.condF rfl ?_
    refine WC.seq ?_
    refine WC.seq ?_
    refine WC.region ?_
    refine WL.val (Val.eql rfl rfl (beq_eq_false_iff_ne.2 (by omega))) rfl ?_
    refine WL.val (Val.assignB rfl) rfl ?_
    refine WL.nil ?_
    refine WX.thenC ?_
    refine WC.condF rfl ?_
    refine WC.region ?_
    refine WL.val (Val.eql rfl rfl (beq_eq_false_iff_ne.2 (by omega))) rfl ?_
    refine WL.val (Val.assignB rfl) rfl ?_
    refine WL.nil ?_
    refine WX.thenC ?_
    refine WC.condF rfl ?_
    refine WC.region ?_
    refine WL.val (Val.moveP rfl) rfl ?_
    refine WL.callP [1, 2] rfl rfl (fail_ctr c b sv1 b2 c1 _) rfl ?_
    rintro _ _ _ - ⟨rfl, rfl⟩
    refine WL.nApp ?_
    refine WL.nil ?_
    refine WX.inNormal ?_
    refine WX.thenC ?_
    refine WC.seq ?_
    refine WC.region ?_
    refine WL.val (Val.ldO 1 rfl rfl rfl) rfl ?_
    refine WL.stA 1 rfl rfl rfl rfl ?_
    refine WL.nil ?_
    refine WX.thenC ?_
    refine WC.ret ?_
    apply WX.doneP (ks := [1, 1])
    case hres => exact RunRes.r1 rfl (ResIs.cellL 1 rfl rfl rfl)
    case hI => first | exact Mem.le.refl _ | assumption
    refine ⟨⟨n, Col.z, Pt.z, Pt.z, []⟩, _, sv1, true, c1, bs1, rfl, ⟨_, rfl, ⟨hn, Pt.z_ok, Pt.z_ok, LsAt.nil _ _⟩⟩, rfl, hB1, ?_⟩
    rw [show st c1 true bs1 = none by simp [st]]
    refine hpick (Reads.bad ?_)
    rintro ⟨k, cl, f, t, l⟩ r ⟨hp, rfl⟩ _
    rcases hp with ⟨h, _⟩ | ⟨h, _⟩ | ⟨h, _⟩
    · exact h0 h
    · exact h1 h
    · exact h.elim h2 h3
end Go.Proofs.YtfdeckdongonnaaDoor
