/-
  Code, the walks: entries, commands.
-/
import Derived.Test.YtfdeckdongonnaaDoorC8
namespace Go.Proofs.YtfdeckdongonnaaDoor
open Go.Sl Go.Cd
set_option maxRecDepth 100000
set_option maxHeartbeats 4000000
set_option linter.unusedVariables false
attribute [local irreducible] WC WL WX WK WA WAK Val Ctr RunRes ResIs Rd At sl box pt Exit.then Exit.inBlock bodyPost Code.wp wpList
theorem entry_ctr (c b : Nat) (sv : Value) (b2 b1 : Bool) (bs : Bs) (I : Mem) (hN : NeedAt I) (hb : Byt I sv bs) :
    Ctr Tryd.prog 80 [ptr c] I (inL c b sv b2 b1) (RdP agg Ent.rep Ent.w Ent.plain c b (st b1 b2 bs)) := by
  refine Ctr.intro Tryd.func80 rfl rfl rfl fun E F => ?_
  refine WC.seq ?_
  refine WC.region ?_
  (refine WL.alloc rfl ?_; intro _)
  refine WL.nApp ?_
  refine WL.nil ?_
  refine WX.thenC ?_
  refine WC.seq ?_
  refine WC.region ?_
  refine WL.val (Val.moveP rfl) rfl ?_
  refine WL.val (Val.nilCheckP rfl) rfl ?_
  refine WL.val (Val.fldAddr rfl) rfl ?_
  refine WL.val (Val.loadS rfl (Rd.own1 1 rfl rfl)) rfl ?_
  refine WL.callP [2] rfl rfl (inInt b sv b1 bs I hb) rfl ?_
  rintro _ I0 _ - ⟨rfl, n1, sv1, c1, bs1, rfl, hn1, rfl, hB1, hR1⟩
  refine WL.nApp ?_
  refine WL.val (Val.build (cs := (vi n1 :: .bool false :: vi 0 :: vi 0 :: vi 0 :: vi 0 :: vi 0 :: vi 0 :: vi 0 :: vi 0 :: .int .u8 0 :: .int .u8 0 :: .int .u8 0 :: .int .u8 0 :: vi 0 :: vi 0 :: vi 0 :: vi 0 :: .slice none 0 0 :: vi 0 :: .int .u8 0 :: .int .u8 0 :: .int .u8 0 :: .int .u8 0 :: vi 0 :: vi 0 :: vi 0 :: vi 0 :: .slice none 0 0 :: vi 0 :: vi 0 :: vi 0 :: .slice none 0 0 :: vi 0 :: vi 0 :: vi 0 :: .slice none 0 0 :: [])) rfl) rfl ?_
  (refine WL.alloc rfl ?_; intro _)
  refine WL.nApp ?_
  refine WL.stA 4 rfl rfl rfl rfl ?_
  refine WL.nil ?_
  refine WX.thenC ?_
  refine WC.seq ?_
  refine WC.region ?_
  refine WL.val (Val.moveP rfl) rfl ?_
  refine WL.val (Val.nilCheckP rfl) rfl ?_
  refine WL.val (Val.fldAddr rfl) rfl ?_
  refine WL.val (Val.loadS rfl (Rd.own1 1 rfl rfl)) rfl ?_
  refine WL.callP [3] rfl rfl (inCount b sv1 c1 bs1 1 _ hB1 (by decide)) rfl ?_
  rintro _ I0 _ - ⟨rfl, n2, sv2, c2, bs2, rfl, hn2, rfl, hB2, hR2⟩
  refine WL.nApp ?_
  refine WL.val (Val.eql rfl rfl rfl) rfl ?_
  refine WL.val (Val.fldAddr rfl) rfl ?_
  refine WL.stB 3 rfl rfl rfl rfl ?_
  refine WL.nil ?_
  refine WX.thenC ?_
  refine WC.seq ?_
  refine WC.region ?_
  refine WL.val (Val.moveP rfl) rfl ?_
  refine WL.val (Val.nilCheckP rfl) rfl ?_
  refine WL.val (Val.fldAddr rfl) rfl ?_
  refine WL.val (Val.loadS rfl (Rd.own1 1 rfl rfl)) rfl ?_
  refine WL.callP [4] rfl rfl (inInt b sv2 c2 bs2 _ hB2) rfl ?_
  rintro _ I0 _ - ⟨rfl, n3, sv3, c3, bs3, rfl, hn3, rfl, hB3, hR3⟩
  refine WL.nApp ?_
  refine WL.val (Val.fldAddr rfl) rfl ?_
  refine WL.stI 3 rfl rfl rfl rfl ?_
  refine WL.nil ?_
  refine WX.thenC ?_
  refine WC.seq ?_
  refine WC.region ?_
  refine WL.val (Val.moveP rfl) rfl ?_
  refine WL.callP [1, 3] rfl rfl (attr_ctr c b sv3 b2 c3 bs3 _ hN hB3) rfl ?_
  rintro _ I4 _ hI4 ⟨x4, _, sv4, d4, c4, bs4, rfl, ⟨_, _, _, _, rfl, ha4⟩, rfl, hB4, hR4⟩
  obtain ⟨a1, k1, a2, k2, a3, k3, a5, k5, rfl, rfl, rfl, rfl⟩ := ha4.sl
  refine WL.nApp ?_
  refine WL.val (Val.fldAddr rfl) rfl ?_
  refine WL.stA 2 rfl rfl rfl rfl ?_
  refine WL.nil ?_
  refine WX.thenC ?_
  refine WC.seq ?_
  refine WC.region ?_
  refine WL.val (Val.ldO 2 rfl rfl rfl) rfl ?_
  refine WL.stA 1 rfl rfl rfl rfl ?_
  refine WL.nil ?_
  refine WX.thenC ?_
  refine WC.ret ?_
  apply WX.doneP (ks := [2, 2])
  case hres => exact RunRes.r1 rfl (ResIs.cellL 1 rfl rfl rfl)
  case hI => first | exact Mem.le.refl _ | assumption
  refine ⟨⟨n1, n2 == 1, n3, x4⟩, _, sv4, d4, c4, bs4, rfl, ⟨_, _, _, _, rfl, ⟨hn1, hn3, ha4⟩⟩, rfl, hB4, (((hR1.lift b2).two (hR2.lift b2)).two (hR3.lift b2)).two hR4 |>.map (fun s => (((s.id, if s.grp then 1 else 0), s.kids), s.atr)) ?_ ?_ ?_⟩
  · rintro s ⟨h1, h2, h3⟩
    refine ⟨rfl, ⟨⟨⟨h1, ?_⟩, h2⟩, h3⟩⟩
    show I64 (if s.grp then 1 else 0) ∧ 0 ≤ (if s.grp = true then (1 : Int) else 0) ∧ (if s.grp = true then (1 : Int) else 0) ≤ 1
    cases s.grp <;> exact ⟨⟨by decide, by decide⟩, by decide, by decide⟩
  · rintro ⟨⟨⟨h1, h2⟩, h3⟩, h4⟩
    refine ⟨⟨h1, h3, h4⟩, ?_⟩
    have : n2 = 0 ∨ n2 = 1 := by omega
    rcases this with rfl | rfl <;> rfl
  · rintro ⟨i, g, k, a⟩ _ h
    simp only [Prod.mk.injEq] at h
    obtain ⟨⟨⟨rfl, rfl⟩, rfl⟩, rfl⟩ := h
    cases g <;> rfl
theorem entries_ctr (c b : Nat) (sv : Value) (b2 b1 : Bool) (bs : Bs) (I : Mem) (hN : NeedAt I) (hb : Byt I sv bs) :
    Ctr Tryd.prog 48 [ptr c] I (inL c b sv b2 b1) (RdL Ent.rep Ent.w Ent.plain 65536 c b (st b1 b2 bs)) := by
  refine Ctr.intro Tryd.func48 rfl rfl rfl fun E F => ?_
  refine WC.seq ?_
  refine WC.region ?_
  refine WL.val (Val.assignS rfl) rfl ?_
  refine WL.nil ?_
  refine WX.thenC ?_
  refine WC.seq ?_
  refine WC.region ?_
  refine WL.val (Val.moveP rfl) rfl ?_
  refine WL.val (Val.moveP rfl) rfl ?_
  refine WL.val Val.makeFuncL rfl ?_
  refine WL.callP [1, 1] rfl rfl (listEnt 80 (ptr c) c b Ent.w Ent.plain (fun sv b2 b1 bs I hN h => entry_ctr c b sv b2 b1 bs I hN h) 65536 (by decide) (by decide) sv b2 b1 bs _ hN hb) rfl ?_
  rintro _ I6 _ hI6 ⟨l, sv6, d6, c6, bs6, hl, rfl, hB6, hR6⟩
  obtain ⟨a6, k6, rfl⟩ := hl.sl
  refine WL.nApp ?_
  refine WL.val (Val.assignS rfl) rfl ?_
  refine WL.nil ?_
  refine WX.thenC ?_
  refine WC.ret ?_
  apply WX.doneP (ks := [0, 0])
  case hres => exact RunRes.r1 rfl (ResIs.tmpS rfl)
  case hI => first | exact Mem.le.refl _ | assumption
  exact ⟨l, sv6, d6, c6, bs6, hl, rfl, hB6, hR6⟩
end Go.Proofs.YtfdeckdongonnaaDoor
