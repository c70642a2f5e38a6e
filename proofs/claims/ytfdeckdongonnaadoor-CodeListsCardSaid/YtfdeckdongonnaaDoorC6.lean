/-
  Code, the walks: styles, segments, paths, attributes.
-/
import Derived.Test.YtfdeckdongonnaaDoorC5
namespace Go.Proofs.YtfdeckdongonnaaDoor
open Go.Sl Go.Cd
set_option maxRecDepth 100000
set_option maxHeartbeats 4000000
set_option linter.unusedVariables false
attribute [local irreducible] WC WL WX WK WA WAK Val Ctr RunRes ResIs Rd At sl box pt Exit.then Exit.inBlock bodyPost Code.wp wpList
/-- Reading a number by a reader's closure. -/
theorem int_el (c b : Nat) (sv : Value) (b2 b1 : Bool) (bs : Bs) (I : Mem) (hb : Byt I sv bs) :
    Ctr Tryd.prog 53 [ptr b] I (inL c b sv b2 b1) (RdP hd Int.rep eInt I64 c b (st b1 b2 bs)) := by
  refine ((inInt b sv b1 bs I hb).behind (box c 103 [ptr b, .bool b2]) ?_).mono ?_
  · rintro v I' L' ⟨_, n, sv', bd', bs', _, _, rfl, _⟩
    exact ⟨_, rfl⟩
  · rintro v I' L' hI ⟨q', rfl, rfl, n, sv', bd', bs', rfl, hn, hq, hB, hR⟩
    cases hq
    exact ⟨n, _, sv', b2, bd', bs', rfl, ⟨rfl, hn⟩, rfl, hB, hR.lift b2⟩
theorem style_ctr (c b : Nat) (sv : Value) (b2 b1 : Bool) (bs : Bs) (I : Mem) (hN : NeedAt I) (hb : Byt I sv bs) :
    Ctr Tryd.prog 57 [ptr c] I (inL c b sv b2 b1) (RdP agg Sty.rep Sty.w Sty.plain c b (st b1 b2 bs)) := by
  refine Ctr.intro Tryd.func57 rfl rfl rfl fun E F => ?_
  refine WC.seq ?_
  refine WC.region ?_
  (refine WL.alloc rfl ?_; intro _)
  refine WL.nApp ?_
  refine WL.nil ?_
  refine WX.thenC ?_
  refine WC.seq ?_
  refine WC.region ?_
  refine WL.val (Val.moveP rfl) rfl ?_
  refine WL.callP [1, 1] rfl rfl (paint_ctr c b sv b2 b1 bs _ hN hb) rfl ?_
  rintro _ I1 _ hI1 ⟨x1, _, sv1, d1, c1, bs1, rfl, ⟨_, rfl, ha1⟩, rfl, hB1, hR1⟩
  obtain ⟨a1, k1, rfl⟩ := ha1.sl
  refine WL.nApp ?_
  refine WL.val (Val.fldAddr rfl) rfl ?_
  refine WL.stA 1 rfl rfl rfl rfl ?_
  refine WL.nil ?_
  refine WX.thenC ?_
  refine WC.seq ?_
  refine WC.region ?_
  refine WL.val (Val.moveP rfl) rfl ?_
  refine WL.callP [2, 2] rfl rfl (paint_ctr c b sv1 d1 c1 bs1 _ (hN.mono hI1) hB1) rfl ?_
  rintro _ I2 _ hI2 ⟨x2, _, sv2, d2, c2, bs2, rfl, ⟨_, rfl, ha2⟩, rfl, hB2, hR2⟩
  obtain ⟨a2, k2, rfl⟩ := ha2.sl
  refine WL.nApp ?_
  refine WL.val (Val.fldAddr rfl) rfl ?_
  refine WL.stA 1 rfl rfl rfl rfl ?_
  refine WL.nil ?_
  refine WX.thenC ?_
  refine WC.seq ?_
  refine WC.region ?_
  refine WL.val (Val.moveP rfl) rfl ?_
  refine WL.val (Val.nilCheckP rfl) rfl ?_
  refine WL.val (Val.fldAddr rfl) rfl ?_
  refine WL.val (Val.loadS rfl (Rd.own1 2 rfl rfl)) rfl ?_
  refine WL.callP [3] rfl rfl (inInt b sv2 c2 bs2 _ hB2) rfl ?_
  rintro _ J3 _ - ⟨rfl, n3, sv3, c3, bs3, rfl, hn3, rfl, hB3, hR3⟩
  refine WL.nApp ?_
  refine WL.val (Val.fldAddr rfl) rfl ?_
  refine WL.stI 1 rfl rfl rfl rfl ?_
  refine WL.nil ?_
  refine WX.thenC ?_
  refine WC.seq ?_
  refine WC.region ?_
  refine WL.val (Val.moveP rfl) rfl ?_
  refine WL.val (Val.nilCheckP rfl) rfl ?_
  refine WL.val (Val.fldAddr rfl) rfl ?_
  refine WL.val (Val.loadS rfl (Rd.own1 2 rfl rfl)) rfl ?_
  refine WL.callP [3] rfl rfl (inInt b sv3 c3 bs3 _ hB3) rfl ?_
  rintro _ J4 _ - ⟨rfl, n4, sv4, c4, bs4, rfl, hn4, rfl, hB4, hR4⟩
  refine WL.nApp ?_
  refine WL.val (Val.fldAddr rfl) rfl ?_
  refine WL.stI 1 rfl rfl rfl rfl ?_
  refine WL.nil ?_
  refine WX.thenC ?_
  refine WC.seq ?_
  refine WC.region ?_
  refine WL.val (Val.moveP rfl) rfl ?_
  refine WL.val (Val.nilCheckP rfl) rfl ?_
  refine WL.val (Val.fldAddr rfl) rfl ?_
  refine WL.val (Val.loadS rfl (Rd.own1 2 rfl rfl)) rfl ?_
  refine WL.callP [3] rfl rfl (inInt b sv4 c4 bs4 _ hB4) rfl ?_
  rintro _ J5 _ - ⟨rfl, n5, sv5, c5, bs5, rfl, hn5, rfl, hB5, hR5⟩
  refine WL.nApp ?_
  refine WL.val (Val.fldAddr rfl) rfl ?_
  refine WL.stI 1 rfl rfl rfl rfl ?_
  refine WL.nil ?_
  refine WX.thenC ?_
  refine WC.seq ?_
  refine WC.region ?_
  refine WL.val (Val.moveP rfl) rfl ?_
  refine WL.val (Val.moveP rfl) rfl ?_
  refine WL.val (Val.nilCheckP rfl) rfl ?_
  refine WL.val (Val.fldAddr rfl) rfl ?_
  refine WL.val (Val.loadS rfl (Rd.own1 2 rfl rfl)) rfl ?_
  refine WL.val Val.makeFuncL rfl ?_
  refine WL.callP [2, 2] rfl rfl (listInt 53 (ptr b) c b eInt I64 (fun sv b2 b1 bs I _ h => int_el c b sv b2 b1 bs I h) 8 (by decide) (by decide) sv5 d2 c5 bs5 _ ((hN.mono hI1).mono hI2) hB5) rfl ?_
  rintro _ I6 _ hI6 ⟨l, sv6, d6, c6, bs6, hl, rfl, hB6, hR6⟩
  obtain ⟨a6, k6, rfl⟩ := hl.sl
  refine WL.nApp ?_
  refine WL.val (Val.fldAddr rfl) rfl ?_
  refine WL.val (Val.fldAddr rfl) rfl ?_
  refine WL.stS 1 rfl rfl rfl rfl ?_
  refine WL.nil ?_
  refine WX.thenC ?_
  refine WC.seq ?_
  refine WC.region ?_
  refine WL.val (Val.moveP rfl) rfl ?_
  refine WL.val (Val.nilCheckP rfl) rfl ?_
  refine WL.val (Val.fldAddr rfl) rfl ?_
  refine WL.val (Val.loadS rfl (Rd.own1 2 rfl rfl)) rfl ?_
  refine WL.callP [3] rfl rfl (inInt b sv6 c6 bs6 _ hB6) rfl ?_
  rintro _ J7 _ - ⟨rfl, n7, sv7, c7, bs7, rfl, hn7, rfl, hB7, hR7⟩
  refine WL.nApp ?_
  refine WL.val (Val.fldAddr rfl) rfl ?_
  refine WL.val (Val.fldAddr rfl) rfl ?_
  refine WL.stI 1 rfl rfl rfl rfl ?_
  refine WL.nil ?_
  refine WX.thenC ?_
  refine WC.seq ?_
  refine WC.region ?_
  refine WL.val (Val.moveP rfl) rfl ?_
  refine WL.val (Val.nilCheckP rfl) rfl ?_
  refine WL.val (Val.fldAddr rfl) rfl ?_
  refine WL.val (Val.loadS rfl (Rd.own1 2 rfl rfl)) rfl ?_
  refine WL.callP [3] rfl rfl (inInt b sv7 c7 bs7 _ hB7) rfl ?_
  rintro _ J8 _ - ⟨rfl, n8, sv8, c8, bs8, rfl, hn8, rfl, hB8, hR8⟩
  refine WL.nApp ?_
  refine WL.val (Val.fldAddr rfl) rfl ?_
  refine WL.stI 1 rfl rfl rfl rfl ?_
  refine WL.nil ?_
  refine WX.thenC ?_
  refine WC.seq ?_
  refine WC.region ?_
  refine WL.val (Val.moveP rfl) rfl ?_
  refine WL.val (Val.nilCheckP rfl) rfl ?_
  refine WL.val (Val.fldAddr rfl) rfl ?_
  refine WL.val (Val.loadS rfl (Rd.own1 2 rfl rfl)) rfl ?_
  refine WL.callP [3] rfl rfl (inInt b sv8 c8 bs8 _ hB8) rfl ?_
  rintro _ J9 _ - ⟨rfl, n9, sv9, c9, bs9, rfl, hn9, rfl, hB9, hR9⟩
  refine WL.nApp ?_
  refine WL.val (Val.fldAddr rfl) rfl ?_
  refine WL.stI 1 rfl rfl rfl rfl ?_
  refine WL.nil ?_
  refine WX.thenC ?_
  refine WC.seq ?_
  refine WC.region ?_
  refine WL.val (Val.ldO 1 rfl rfl rfl) rfl ?_
  refine WL.stA 1 rfl rfl rfl rfl ?_
  refine WL.nil ?_
  refine WX.thenC ?_
  refine WC.ret ?_
  have hI : I.le J9 := (hI1.trans hI2).trans hI6
  apply WX.doneP (ks := [1, 1])
  case hres => exact RunRes.r1 rfl (ResIs.cellL 1 rfl rfl rfl)
  case hI => first | exact Mem.le.refl _ | assumption
  refine ⟨⟨x1, x2, n3, n4, n5, l, n7, n8, n9⟩, _, sv9, d6, c9, bs9, rfl, ⟨_, _, _, rfl, ⟨ha1.mono (hI2.trans hI6), ha2.mono hI6, hn3, hn4, hn5, hl, hn7, hn8, hn9⟩⟩, rfl, hB9, ?_⟩
  refine ((((((((hR1.two hR2).two (hR3.lift d2)).two (hR4.lift d2)).two (hR5.lift d2)).two hR6).two (hR7.lift d6)).two (hR8.lift d6)).two (hR9.lift d6)).map (fun s => ((((((((s.fill, s.pen), s.rule), s.half), s.cap), s.dash), s.phase), s.opac), s.mode)) ?_ ?_ ?_
  · rintro s ⟨h1, h2, h3, h4, h5, h6, h7, h8, h9⟩
    exact ⟨by simp [Sty.w], ⟨⟨⟨⟨⟨⟨⟨⟨h1, h2⟩, h3⟩, h4⟩, h5⟩, Int.ofNat_le.2 h6.1, h6.2⟩, h7⟩, h8⟩, h9⟩⟩
  · rintro ⟨⟨⟨⟨⟨⟨⟨⟨h1, h2⟩, h3⟩, h4⟩, h5⟩, h6⟩, h7⟩, h8⟩, h9⟩
    exact ⟨⟨h1, h2, h3, h4, h5, ⟨Int.ofNat_le.1 h6.1, h6.2⟩, h7, h8, h9⟩, rfl⟩
  · rintro ⟨⟩ _ h
    cases h
    rfl
end Go.Proofs.YtfdeckdongonnaaDoor
