/-
 Drawings, the walks: attributes behind a command.
-/
import Derived.Test.YtggcpoleklcmkaaGreatDoorX2
import Derived.Test.YtggcpoleklcmkaaGreatDoorX11
import Derived.Test.YtggcpoleklcmkaaGreatDoorX3
import Derived.Test.YtggcpoleklcmkaaGreatDoorX10
import Derived.Test.YtggcpoleklcmkaaGreatDoorX8
set_option linter.unusedVariables false
set_option linter.unusedSimpArgs false
set_option maxRecDepth 100000
set_option maxHeartbeats 8000000
namespace Go.Dc
open Go.Sl Go.Ls
theorem del_at {l : List Sg} {i : Int} (h : (pathDelete l i).2 = 0) : atSeg l i = 0 := by
 rw [pathDelete] at h
 split at h
 ·exact h
 ·rename_i h1; exact Decidable.of_not_not h1
theorem put_at {l : List Sg} {i k : Int} {p : Pt} (h : (pathPut l i k p).2 = 0) : atSeg l i = 0 ∧ 0 ≤ k ∧ k < 3 := by
 rw [pathPut] at h
 split at h
 ·rename_i h1; exact absurd h h1
 ·rename_i h1
  split at h
  ·exact absurd h (by show ¬ (30 : Int) = 0; decide)
  ·have := need_le (sgAt l i).kind
   exact ⟨Decidable.of_not_not h1, by omega, by omega⟩
theorem point_ok {x : Sg} (h : x.ok) (k : Nat) : (x.point k).ok := by
 rw [Sg.point]
 split
 ·exact h.2.1
 ·split
  ·exact h.2.2.1
  ·exact h.2.2.2
theorem at_elem {I : Mem} {l : List Sg} {a : Option Addr} {n cap : Nat} {i : Int} (hv : LsAt Sg.rep I l (.slice a n cap)) (h : atSeg l i = 0) :
  0 ≤ i ∧ i < l.length ∧ ∃ b off x, a = some ⟨b, off, none⟩ ∧ sgAt l i = x ∧ x.ok ∧ At I b (off + i.toNat * 7) x.cs ∧ ∀ k < 3, At I b (off + i.toNat * 7 + 1 + k * 2) (x.point k).cs := by
 obtain ⟨_, h0, h1, _⟩ := atSeg_ok h
 obtain ⟨j, rfl⟩ : ∃ j : Nat, i = j := ⟨i.toNat, by omega⟩
 have hj : j < l.length := by omega
 obtain ⟨b, off, cap, cs, he, ⟨rfl, hx⟩, hA⟩ := hv.get j hj
 injection he with h2
 subst h2
 refine ⟨h0, h1, b, off, _, rfl, sgAt_nat hj, hx, hA, fun k hk => ?_⟩
 rw [← point_at _ k hk, Nat.add_assoc]
 exact At.sub _ hA rfl
end Go.Dc
namespace Go.Proofs.YtggcpoleklcmkaaGreatDoor
open Go.Sl Go.Ls Go.Tr Go.Dc
attribute [local irreducible] WC WL WX WK WA WAK Val Ctr RunRes ResIs Rd At sl box pt Exit.then Exit.inBlock bodyPost Code.wp wpList
def ChangeR (q : Atr × Cm × Int) : Value → Mem → Prop := fun r I' => ∃ acs bcs, r = .tuple #[.agg acs.toArray, .agg bcs.toArray, vi q.2.2] ∧ Atr.rep I' q.1 acs ∧ Cm.rep I' q.2.1 bcs
theorem change_ctr (a : Atr) (c : Cm) (t u d q e t' u' d' q' : Value) (I : Mem) (hN : NeedAt I) (ha : a.at_ I t u d q) (hl : a.lim) (hc : c.at_ I e t' u' d' q') (hk6 : 6 ≤ c.kind) (hk12 : c.kind ≤ 12) :
  Ctr Tryz.prog 117 [.agg (a.cs t u d q).toArray, .agg (c.cs e t' u' d' q').toArray] I [] (KeepR [] (ChangeR (change a c))) := by
 have hca := hc.atr
 obtain ⟨a1, c1, a2, c2, a3, c3, a4, c4, rfl, rfl, rfl, rfl⟩ := ha.sl
 obtain ⟨x0, y0, x1, y1, x2, y2, x3, y3, x4, y4, rfl, rfl, rfl, rfl, rfl⟩ := hc.sl
 refine Ctr.intro Tryz.func117 rfl rfl rfl fun E F => ?_
 refine jS (WL.boxA rfl rfl (fun _ => ?_))
 refine jW ?_
 refine WL.boxA rfl rfl (fun _ => ?_)
 refine jW ?_
 refine WL.alloc rfl (fun _ => ?_)
 refine jW ?_
 refine WL.alloc rfl (fun _ => ?_)
 refine jW ?_
 refine jf rfl (jM (jB ?_))
 rename_i g2 g3 g4 g5
 have hbx : ∀ X : List HP, X = X := fun _ => rfl
 refine WC.cutP (fun ρ' I' L' => I' = I ∧ ρ' 2 = ptr g2 ∧ ρ' 3 = ptr g3 ∧ ρ' 4 = ptr g4 ∧ ρ' 5 = ptr g5 ∧ ρ' 6 = vi 0 ∧ L' = [F, box g2 38 (a.cs (.slice a1 a.sty.fill.stops.length c1) (.slice a2 a.sty.pen.stops.length c2) (.slice a3 a.sty.dash.length c3) (.slice a4 a.path.length c4)), box g3 59 (c.cs (.slice x0 c.ents.length y0) (.slice x1 c.atr.sty.fill.stops.length y1) (.slice x2 c.atr.sty.pen.stops.length y2) (.slice x3 c.atr.sty.dash.length y3) (.slice x4 c.atr.path.length y4)), box g4 38 (a.cs (.slice a1 a.sty.fill.stops.length c1) (.slice a2 a.sty.pen.stops.length c2) (.slice a3 a.sty.dash.length c3) (.slice a4 a.path.length c4)), box g5 59 (Cm.cs { Cm.z with kind := c.kind } (.slice none 0 0) (.slice none 0 0) (.slice none 0 0) (.slice none 0 0) (.slice none 0 0))]) ?_ ?_
 ·skip
  refine j8 999 [1, 1] rfl (jT 0 rfl (jt 0 rfl rfl rfl) (jT 1 rfl (jn rfl) (jT 2 rfl (jp 1 rfl rfl rfl) (jT 3 rfl (Val.build (cs := Cm.cs { Cm.z with kind := c.kind } (.slice none 0 0) (.slice none 0 0) (.slice none 0 0) (.slice none 0 0) (.slice none 0 0)) rfl) ?_))))
  refine j5 4 rfl (WL.stA 3 rfl rfl rfl rfl ?_)
  refine jC (j7 [1, 1] rfl (j5 5 rfl (WL.stA 4 rfl rfl rfl rfl ?_)))
  refine jC (j7 [1, 1] rfl (j6 ?_))
  refine WX.thenK (WK.meet ?_)
  exact ⟨rfl, rfl, rfl, rfl, rfl, rfl, rfl⟩
 rintro ρ' I' L' ⟨rfl, r2, r3, r4, r5, r6, rfl⟩
 refine ju5 r6 r5 r4 r3 r2 ?_
 have hN5 : ∀ k : Int, 6 ≤ k → k ≤ 12 → I64 k := fun k h1 h2 => ⟨by show (-9223372036854775808 : Int) ≤ _; omega, by show _ ≤ (9223372036854775807 : Int); omega⟩
 refine WC.cut (fun ρ2 I2 L2 => ∃ acs bcs, I'.le I2 ∧ ρ2 4 = ptr g4 ∧ ρ2 5 = ptr g5 ∧ ρ2 6 = vi (change a c).2.2 ∧ L2 = [F, box g2 38 (a.cs (.slice a1 a.sty.fill.stops.length c1) (.slice a2 a.sty.pen.stops.length c2) (.slice a3 a.sty.dash.length c3) (.slice a4 a.path.length c4)), box g3 59 (c.cs (.slice x0 c.ents.length y0) (.slice x1 c.atr.sty.fill.stops.length y1) (.slice x2 c.atr.sty.pen.stops.length y2) (.slice x3 c.atr.sty.dash.length y3) (.slice x4 c.atr.path.length y4)), box g4 38 acs, box g5 59 bcs] ∧ Atr.rep I2 (change a c).1 acs ∧ Cm.rep I2 (change a c).2.1 bcs) ?_ ?_
 ·have hk : c.kind = 6 ∨ c.kind = 7 ∨ c.kind = 8 ∨ c.kind = 9 ∨ c.kind = 10 ∨ c.kind = 11 ∨ c.kind = 12 := by omega
  rcases hk with hk | hk | hk | hk | hk | hk | hk
  ·rw [show change a c = ({ a with mtx := c.atr.mtx }, { Cm.z with kind := c.kind, atr := { Atr.z with mtx := a.mtx } }, if c.atr.mtx.right then 0 else 10) by rw [change, if_pos hk, hk]]
   refine jS (jm (jn rfl) (jm (jp 2 rfl rfl rfl) (jM (WC.block (jS (jw rfl rfl (jg rfl (jM (jF (jB (j8 999 [1, 1] rfl (jT 0 rfl (jn rfl) (jT 1 rfl (jn rfl) (jT 2 rfl (jt 1 rfl rfl rfl) (jT 3 rfl (jn rfl) (jT 4 rfl (jt 0 rfl rfl rfl) (jT 5 rfl (jn rfl) (j5 6 rfl (WL.stA 3 rfl rfl rfl rfl ?_)))))))))))))))))))
   refine jC (j7 [1, 1] rfl (j5 7 rfl (jm (jn rfl) (jC (j7 [1, 1] rfl (j5 8 rfl (jm (jn rfl) (jC (j7 [1, 1] rfl (j5 9 rfl (WL.stA 4 rfl rfl rfl rfl ?_)))))))))))
   refine jC (j7 [1, 1] rfl (j6 (jK (jm (jn rfl) (jm (jt 3 rfl rfl rfl) ?_)))))
   refine WL.callE rfl rfl (mtxRight_ctr c.atr.mtx _) rfl (fun h1 => ?_) (fun h1 => ?_)
   ·skip
    refine jl rfl (jM (jE (jV (WX.inNormal ?_))))
    refine WX.thenK (WK.meet ?_)
    exact ⟨_, _, Mem.le.refl _, rfl, rfl, by rw [if_pos h1]; rfl, rfl, ⟨_, _, _, _, rfl, hca.mtx, ha.sty, ha.path⟩, ⟨_, _, _, _, _, rfl, hc.kind, i64z, i64z, i64z, i64z, i64z, i64z, LsAt.nil _ _, ⟨ha.mtx, Sty.z_at _, LsAt.nil _ _⟩, Sg.z_ok, Pt.z_ok⟩⟩
   ·skip
    refine jl rfl (jM (jF (jD (jf rfl (jC (WX.inNormal ?_))))))
    refine WX.thenK (WK.meet ?_)
    exact ⟨_, _, Mem.le.refl _, rfl, rfl, by rw [if_neg h1]; rfl, rfl, ⟨_, _, _, _, rfl, hca.mtx, ha.sty, ha.path⟩, ⟨_, _, _, _, _, rfl, hc.kind, i64z, i64z, i64z, i64z, i64z, i64z, LsAt.nil _ _, ⟨ha.mtx, Sty.z_at _, LsAt.nil _ _⟩, Sg.z_ok, Pt.z_ok⟩⟩
  ·rw [show change a c = ({ a with sty := c.atr.sty }, { Cm.z with kind := c.kind, atr := { Atr.z with sty := a.sty } }, c.atr.sty.check) by rw [change, if_neg (by omega), if_pos hk, hk]]
   refine jS (jm (jn rfl) (jm (jp 2 rfl rfl rfl) (jM (WC.block (jCf rfl rfl (jS (jw rfl rfl (jg rfl (jM (jF (jB (j8 999 [1, 1] rfl (jT 0 rfl (jn rfl) (jT 1 rfl (jn rfl) (jT 2 rfl (jt 1 rfl rfl rfl) (jT 3 rfl (jt 0 rfl rfl rfl) (jT 6 rfl (jn rfl) (j5 4 rfl (WL.callP [] rfl rfl (copied_ctr a _ _ _ _ _ ha hl) rfl ?_)))))))))))))))))))
   rintro _ I3 _ hI3 ⟨rfl, t1, u1, d1, q1, rfl, ha1⟩
   refine jW ?_
   obtain ⟨m1, n1, m2, n2, m3, n3, m4, n4, rfl, rfl, rfl, rfl⟩ := ha1.sl
   refine jC (j9 [1, 1] (hI3) rfl (jT 5 rfl (Val.fieldA rfl rfl) ?_))
   refine j5 7 rfl (WL.stA 3 rfl rfl rfl rfl ?_)
   refine jC (j9 [1, 1] (hI3) rfl (j5 8 rfl (jm (jn rfl) (jC (j9 [1, 1] (hI3) rfl (j5 9 rfl (jm (jn rfl) (jC (j9 [1, 1] (hI3) rfl (j5 10 rfl (WL.store 4 rfl rfl rfl ?_)))))))))))
   refine jC (j9 [1, 1] (hI3) rfl (j6 (jA (jD (WL.nSet ?_)))))
   refine jm (jn rfl) (jm (jt 3 rfl rfl rfl) (WL.callS rfl rfl (sty_ctr c.atr.sty _ _ _ _ (hca.sty.mono hI3)) rfl ?_))
   rintro _ rfl
   refine jf rfl (jC (WX.inNormal ?_))
   refine WX.thenK (WK.meet ?_)
   exact ⟨_, _, hI3, rfl, rfl, rfl, rfl, ⟨_, _, _, _, rfl, ha.mtx, hca.sty.mono hI3, ha.path.mono hI3⟩, ⟨_, _, _, _, _, rfl, hc.kind, i64z, i64z, i64z, i64z, i64z, i64z, LsAt.nil _ _, ⟨Mtx.z_ok, ha1.sty, LsAt.nil _ _⟩, Sg.z_ok, Pt.z_ok⟩⟩
  ·rw [show change a c = ({ a with path := c.atr.path }, { Cm.z with kind := c.kind, atr := { Atr.z with path := a.path } }, pathCheck c.atr.path) by rw [change, if_neg (by omega), if_neg (by omega), if_pos hk, hk]]
   refine jS (jm (jn rfl) (jm (jp 2 rfl rfl rfl) (jM (WC.block (jCf rfl rfl (jCf rfl rfl (jS (jw rfl rfl (jg rfl (jM (jF (jB (j8 999 [1, 1] rfl (jT 0 rfl (jn rfl) (jT 1 rfl (jn rfl) (jT 2 rfl (jp 1 rfl rfl rfl) (jT 3 rfl (jt 0 rfl rfl rfl) (jT 6 rfl (jn rfl) (j5 4 rfl (WL.callP [] rfl rfl (copied_ctr a _ _ _ _ _ ha hl) rfl ?_))))))))))))))))))))
   rintro _ I3 _ hI3 ⟨rfl, t1, u1, d1, q1, rfl, ha1⟩
   refine jW ?_
   obtain ⟨m1, n1, m2, n2, m3, n3, m4, n4, rfl, rfl, rfl, rfl⟩ := ha1.sl
   refine jC (j9 [1, 1] (hI3) rfl (jT 5 rfl (Val.fieldS rfl rfl) ?_))
   refine j5 7 rfl (WL.stS 3 rfl rfl rfl rfl ?_)
   refine jC (j9 [1, 1] (hI3) rfl (j5 8 rfl (jm (jn rfl) (jC (j9 [1, 1] (hI3) rfl (j5 9 rfl (jm (jn rfl) (jC (j9 [1, 1] (hI3) rfl (j5 10 rfl (WL.stS 4 rfl rfl rfl rfl ?_)))))))))))
   refine jC (j9 [1, 1] (hI3) rfl (j6 (jA (jD (jm (jn rfl) (jm (jp 3 rfl rfl rfl) (WL.callS rfl rfl (path_ctr c.atr.path _ _ (hN.mono hI3) (hca.path.mono hI3)) rfl ?_)))))))
   rintro _ rfl
   refine jf rfl (jC (WX.inNormal ?_))
   refine WX.thenK (WK.meet ?_)
   exact ⟨_, _, hI3, rfl, rfl, rfl, rfl, ⟨_, _, _, _, rfl, ha.mtx, ha.sty.mono hI3, hca.path.mono hI3⟩, ⟨_, _, _, _, _, rfl, hc.kind, i64z, i64z, i64z, i64z, i64z, i64z, LsAt.nil _ _, ⟨Mtx.z_ok, Sty.z_at _, ha1.path⟩, Sg.z_ok, Pt.z_ok⟩⟩
  ·rw [show change a c = ({ a with path := (pathInsert a.path c.i c.seg).1 }, { Cm.z with kind := 10, i := c.i }, (pathInsert a.path c.i c.seg).2) by rw [change, if_neg (by omega), if_neg (by omega), if_neg (by omega), if_pos hk]]
   refine jS (jm (jn rfl) (jm (jp 2 rfl rfl rfl) (jM (WC.block (jCf rfl rfl (jCf rfl rfl (jCf rfl rfl (jS (jw rfl rfl (jg rfl (jM (jF (jB (j8 999 [2] rfl (jT 0 rfl (jn rfl) (jT 1 rfl (jp 0 rfl rfl rfl) (jT 2 rfl (jn rfl) (j5 3 rfl (WL.stI 4 rfl rfl rfl rfl ?_)))))))))))))))))))
   refine jC (j7 [2] rfl (j5 4 rfl (jm (jn rfl) (jC (j7 [2] rfl (j5 5 rfl (WL.stI 4 rfl rfl rfl rfl ?_)))))))
   refine jC (j7 [2] rfl (j6 (jA (jD (jm (jn rfl) (jm (jp 1 rfl rfl rfl) (jm (jn rfl) (jm (jp 2 rfl rfl rfl) (jm (jn rfl) (jm (jt 2 rfl rfl rfl) (WL.callR [] rfl rfl rfl (pInsert a.path c.i c.seg _ _ hN ha.path hc.seg) rfl ?_)))))))))))
   rintro _ I3 hI3 ⟨w, rfl, hw⟩
   obtain ⟨wa, wc, rfl⟩ := hw.sl
   refine je rfl (jm (Val.extractS rfl rfl) (jm (jq rfl rfl) (jm (jn rfl) (WL.stS 3 rfl rfl rfl rfl ?_))))
   refine jf rfl (jC (WX.inNormal ?_))
   refine WX.thenK (WK.meet ?_)
   exact ⟨_, _, hI3, rfl, rfl, rfl, rfl, ⟨_, _, _, _, rfl, ha.mtx, ha.sty.mono hI3, hw⟩, ⟨_, _, _, _, _, rfl, hN5 10 (by decide) (by decide), i64z, i64z, i64z, i64z, hc.i, i64z, LsAt.nil _ _, Atr.z_at _, Sg.z_ok, Pt.z_ok⟩⟩
  ·rw [show change a c = ({ a with path := (pathDelete a.path c.i).1 }, { Cm.z with kind := 9, i := c.i, seg := if (pathDelete a.path c.i).2 = 0 then sgAt a.path c.i else Sg.z }, (pathDelete a.path c.i).2) by rw [change, if_neg (by omega), if_neg (by omega), if_neg (by omega), if_neg (by omega), if_pos hk]]
   refine jS (jm (jn rfl) (jm (jp 2 rfl rfl rfl) (jM (WC.block (jCf rfl rfl (jCf rfl rfl (jCf rfl rfl (jCf rfl rfl (jS (jw rfl rfl (jg rfl (jM (jF (jB (j8 999 [2] rfl (jT 0 rfl (jn rfl) (jT 1 rfl (jp 0 rfl rfl rfl) (jT 2 rfl (jn rfl) (j5 3 rfl (WL.stI 4 rfl rfl rfl rfl ?_))))))))))))))))))))
   refine jC (j7 [2] rfl (j5 4 rfl (jm (jn rfl) (jC (j7 [2] rfl (j5 5 rfl (WL.stI 4 rfl rfl rfl rfl ?_)))))))
   refine jC (j7 [2] rfl (j6 (jK (jm (jn rfl) (jm (jp 1 rfl rfl rfl) (jm (jn rfl) (jm (jp 2 rfl rfl rfl) (WL.callR [] rfl rfl rfl (pDelete a.path c.i _ _ hN ha.path) rfl ?_))))))))
   rintro _ I3 hI3 ⟨w, rfl, hw⟩
   obtain ⟨wa, wc, rfl⟩ := hw.sl
   by_cases h0 : (pathDelete a.path c.i).2 = 0
   ·rw [if_pos h0]
    obtain ⟨j0, j1, b, off, x, rfl, hsx, hxo, hA, _⟩ := at_elem ha.path (del_at h0)
    rw [hsx]
    have hA := hA.mono hI3
    refine je rfl (jm (Val.extractS rfl rfl) (jm (jq rfl rfl) (jm (jn rfl) (WL.stS 3 rfl rfl rfl rfl ?_))))
    refine jf rfl (jN (ja rfl (jw rfl rfl (jM (jF (jD (jm (jn rfl) (jm (jp 1 rfl rfl rfl) (jm (jn rfl) (jm (jp 2 rfl rfl rfl) (jm (jZ rfl rfl) (jm (Val.loadI rfl (by assumption) rfl) ?_))))))))))))
    refine jm (jn rfl) (WL.stA 4 rfl rfl rfl rfl ?_)
    refine jC (WX.inNormal ?_)
    refine WX.thenK (WK.meet ?_)
    exact ⟨_, _, hI3, rfl, rfl, rfl, rfl, ⟨_, _, _, _, rfl, ha.mtx, ha.sty.mono hI3, hw⟩, ⟨_, _, _, _, _, rfl, hN5 9 (by decide) (by decide), i64z, i64z, i64z, i64z, hc.i, i64z, LsAt.nil _ _, Atr.z_at _, hxo, Pt.z_ok⟩⟩
   ·rw [if_neg h0]
    refine je rfl (jm (Val.extractS rfl rfl) (jm (jq rfl rfl) (jm (jn rfl) (WL.stS 3 rfl rfl rfl rfl ?_))))
    refine jf rfl (jN (ja rfl (jv rfl rfl (jM (jE (jV (WX.inNormal ?_)))))))
    refine WX.thenK (WK.meet ?_)
    exact ⟨_, _, hI3, rfl, rfl, rfl, rfl, ⟨_, _, _, _, rfl, ha.mtx, ha.sty.mono hI3, hw⟩, ⟨_, _, _, _, _, rfl, hN5 9 (by decide) (by decide), i64z, i64z, i64z, i64z, hc.i, i64z, LsAt.nil _ _, Atr.z_at _, Sg.z_ok, Pt.z_ok⟩⟩
  ·rw [show change a c = ({ a with path := (pathPut a.path c.i c.k c.point).1 }, { Cm.z with kind := c.kind, i := c.i, k := c.k, point := if (pathPut a.path c.i c.k c.point).2 = 0 then (sgAt a.path c.i).point c.k.toNat else Pt.z }, (pathPut a.path c.i c.k c.point).2) by rw [change, if_neg (by omega), if_neg (by omega), if_neg (by omega), if_neg (by omega), if_neg (by omega), if_pos hk, hk]]
   refine jS (jm (jn rfl) (jm (jp 2 rfl rfl rfl) (jM (WC.block (jCf rfl rfl (jCf rfl rfl (jCf rfl rfl (jCf rfl rfl (jCf rfl rfl (jS (jw rfl rfl (jg rfl (jM (jF (jB (j8 999 [2] rfl (jT 0 rfl (jn rfl) (jT 1 rfl (jp 0 rfl rfl rfl) (jT 2 rfl (jn rfl) (jT 3 rfl (jp 0 rfl rfl rfl) (jT 4 rfl (jn rfl) (j5 5 rfl (WL.stI 4 rfl rfl rfl rfl ?_)))))))))))))))))))))))
   refine jC (j7 [2] rfl (j5 6 rfl (jm (jn rfl) (jC (j7 [2] rfl (j5 7 rfl (WL.stI 4 rfl rfl rfl rfl ?_)))))))
   refine jC (j7 [2] rfl (j6 (jK (jm (jn rfl) (jm (jp 1 rfl rfl rfl) (jm (jn rfl) (jm (jp 2 rfl rfl rfl) (jm (jn rfl) (jm (jp 2 rfl rfl rfl) (jm (jn rfl) (jm (jt 2 rfl rfl rfl) (WL.callR [] rfl rfl rfl (pPut a.path c.i c.k c.point _ _ hN ha.path hc.point) rfl ?_))))))))))))
   rintro _ I3 hI3 ⟨w, rfl, hw⟩
   obtain ⟨wa, wc, rfl⟩ := hw.sl
   by_cases h0 : (pathPut a.path c.i c.k c.point).2 = 0
   ·rw [if_pos h0]
    obtain ⟨hat, hk0, hk3⟩ := put_at h0
    obtain ⟨j0, j1, b, off, x, rfl, hsx, hxo, _, hP⟩ := at_elem ha.path hat
    rw [hsx]
    have hA := (hP c.k.toNat (by omega)).mono hI3
    refine je rfl (jm (Val.extractS rfl rfl) (jm (jq rfl rfl) (jm (jn rfl) (WL.stS 3 rfl rfl rfl rfl ?_))))
    refine jf rfl (jN (ja rfl (jw rfl rfl (jM (jF (j8 999 [1, 1] rfl (jT 0 rfl (jn rfl) (jT 1 rfl (jp 0 rfl rfl rfl) (jT 2 rfl (jn rfl) (jT 3 rfl (jp 1 rfl rfl rfl) (jT 4 rfl (jn rfl) (jT 5 rfl (jp 1 rfl rfl rfl) (jT 6 rfl (jZ rfl rfl) (jT 7 rfl (jn rfl) (jT 8 rfl (Val.indexAddrA rfl rfl (by omega) (by omega)) ?_)))))))))))))))
    refine jT 9 rfl (Val.loadI rfl hA rfl) ?_
    refine j5 10 rfl (jm (jn rfl) (jC (j7 [1, 1] rfl (j5 11 rfl (WL.stA 4 rfl rfl rfl rfl ?_)))))
    refine jC (j7 [1, 1] rfl (j6 (WX.inNormal ?_)))
    refine WX.thenK (WK.meet ?_)
    exact ⟨_, _, hI3, rfl, rfl, rfl, rfl, ⟨_, _, _, _, rfl, ha.mtx, ha.sty.mono hI3, hw⟩, ⟨_, _, _, _, _, rfl, hc.kind, i64z, i64z, i64z, i64z, hc.i, hc.k, LsAt.nil _ _, Atr.z_at _, Sg.z_ok, point_ok hxo _⟩⟩
   ·rw [if_neg h0]
    refine je rfl (jm (Val.extractS rfl rfl) (jm (jq rfl rfl) (jm (jn rfl) (WL.stS 3 rfl rfl rfl rfl ?_))))
    refine jf rfl (jN (ja rfl (jv rfl rfl (jM (jE (jV (WX.inNormal ?_)))))))
    refine WX.thenK (WK.meet ?_)
    exact ⟨_, _, hI3, rfl, rfl, rfl, rfl, ⟨_, _, _, _, rfl, ha.mtx, ha.sty.mono hI3, hw⟩, ⟨_, _, _, _, _, rfl, hc.kind, i64z, i64z, i64z, i64z, hc.i, hc.k, LsAt.nil _ _, Atr.z_at _, Sg.z_ok, Pt.z_ok⟩⟩
  ·rw [show change a c = ({ a with path := (pathSplit a.path c.i).1 }, { Cm.z with kind := 8, atr := { Atr.z with path := a.path } }, (pathSplit a.path c.i).2) by rw [change, if_neg (by omega), if_neg (by omega), if_neg (by omega), if_neg (by omega), if_neg (by omega), if_neg (by omega)]]
   refine jS (jm (jn rfl) (jm (jp 2 rfl rfl rfl) (jM (WC.block (jCf rfl rfl (jCf rfl rfl (jCf rfl rfl (jCf rfl rfl (jCf rfl rfl (jCf rfl rfl (jS (jw rfl rfl (jg rfl (jM (jF (jS (jm (jt 1 rfl rfl rfl) (WL.callR [] rfl rfl rfl (copied_ctr a _ _ _ _ _ ha hl) rfl ?_))))))))))))))))))
   rintro _ I3 hI3 ⟨t1, u1, d1, q1, rfl, ha1⟩
   obtain ⟨m1, n1, m2, n2, m3, n3, m4, n4, rfl, rfl, rfl, rfl⟩ := ha1.sl
   refine jm (Val.fieldS rfl rfl) ?_
   refine jm (jn rfl) (WL.stI 4 rfl rfl rfl rfl ?_)
   refine jm (jn rfl) (jm (jn rfl) (WL.stS 4 rfl rfl rfl rfl ?_))
   refine jM (jD (jm (jn rfl) (jm (jp 1 rfl rfl rfl) (jm (jn rfl) (jm (jp 2 rfl rfl rfl) (WL.callR [] rfl rfl rfl (pSplit a.path c.i _ _ (hN.mono hI3) (ha.path.mono hI3)) rfl ?_))))))
   rintro _ I4 hI4 ⟨w, rfl, hw⟩
   obtain ⟨wa, wc, rfl⟩ := hw.sl
   refine je rfl (jm (Val.extractS rfl rfl) (jm (jq rfl rfl) (jm (jn rfl) (WL.stS 3 rfl rfl rfl rfl ?_))))
   refine jf rfl (jC (WX.inNormal ?_))
   refine WX.thenK (WK.meet ?_)
   exact ⟨_, _, hI3.trans hI4, rfl, rfl, rfl, rfl, ⟨_, _, _, _, rfl, ha.mtx, ha.sty.mono (hI3.trans hI4), hw⟩, ⟨_, _, _, _, _, rfl, hN5 8 (by decide) (by decide), i64z, i64z, i64z, i64z, i64z, i64z, LsAt.nil _ _, ⟨Mtx.z_ok, Sty.z_at _, ha1.path.mono hI4⟩, Sg.z_ok, Pt.z_ok⟩⟩
 rintro ρ2 I2 L2 ⟨acs, bcs, hI2, r4, r5, r6, rfl, ⟨t1, u1, d1, q1, rfl, hA⟩, ⟨e2, t2, u2, d2, q2, rfl, hB⟩⟩
 refine ju3 r6 r5 r4 ?_
 generalize change a c = ch at *
 obtain ⟨m1, n1, m2, n2, m3, n3, m4, n4, rfl, rfl, rfl, rfl⟩ := hA.sl
 obtain ⟨p0, o0, p1, o1, p2, o2, p3, o3, p4, o4, rfl, rfl, rfl, rfl, rfl⟩ := hB.sl
 refine jB (j8 999 [3, 3] rfl (jT 0 rfl (jt 0 rfl rfl rfl) (jT 1 rfl (jt 1 rfl rfl rfl) (jT 2 rfl (Val.moveI rfl) (j5 3 rfl (WL.stA 3 rfl rfl rfl rfl ?_))))))
 refine jC (j7 [3, 3] rfl (j5 4 rfl (WL.stA 4 rfl rfl rfl rfl ?_)))
 refine jC (j7 [3, 3] rfl (jT 5 rfl (Val.assignI rfl) (j6 (jA (jR ?_)))))
 exact jP [] (jr3 rfl (jcL 3 rfl rfl rfl) (jcL 4 rfl rfl rfl) (jtI rfl)) ⟨rfl, _, _, rfl, ⟨_, _, _, _, rfl, hA⟩, ⟨_, _, _, _, _, rfl, hB⟩⟩
end Go.Proofs.YtggcpoleklcmkaaGreatDoor

namespace Go.Sl
open Go.Ls
theorem Val.lookup2v {Γ : Cx} {ρ : Nat → Value} {I : Mem} {L : List HP} {ty t b n : Nat} {x y : Operand} {i : Int} {z v : Value} {q : Bool} {f : Int → Option Value} (k : Nat) [hk : MapK Γ.P t z] (hv : (f i).getD z = v) (hq : (f i).isSome = q) (hx : ev ρ x = .map (some b)) (hy : ev ρ y = vi i) (hL : L[k]? = some (mp b f n)) :
  Val Γ ρ I L (.lookup t x y true) ty (.tuple #[v, .bool q]) := by
 subst hv; subst hq
 exact Val.lookup2 k hx hy hL
end Go.Sl
namespace Go.Dc
open Go.Sl Go.Ls Go.Tr
theorem AtRep.some {I : Mem} {at_ : Int → Option Atr} {f : Int → Option Value} (h : AtRep I at_ f) (i : Int) : (f i).isSome = (at_ i).isSome := by
 rcases h i with ⟨h1, h2⟩ | ⟨a, v, h1, h2, _⟩ <;> rw [h1, h2] <;> rfl
theorem Cm.at_.withId {I : Mem} {c : Cm} {e t u d q : Value} (h : c.at_ I e t u d q) {i : Int} (hi : I64 i) : Cm.at_ I { c with id := i } e t u d q := ⟨h.kind, hi, h.parent, h.index, h.count, h.i, h.k, h.ents, h.atr, h.seg, h.point⟩
theorem dom_up {at_ : Int → Option Atr} {P : Int → Prop} (h : ∀ i, (at_ i).isSome = true ↔ P i) {j : Int} {a b : Atr} (hj : at_ j = some a) : ∀ i, (upAt at_ j b i).isSome = true ↔ P i := fun i => by
 rw [← h i, upAt]
 split
 ·rename_i e
  rw [e, hj]; simp
 ·exact Iff.rfl
theorem checked_len {l : List Sg} (h : (checked l).2 = 0) : (checked l).1.length ≤ 4096 := by
 rw [checked] at h ⊢
 split at h
 ·rename_i h1; exact absurd h h1
 ·rename_i h1
  rw [if_neg h1]
  exact pathCheck_lim (Decidable.of_not_not h1)
theorem insert_len {l : List Sg} {i : Int} {s : Sg} (h : (pathInsert l i s).2 = 0) : (pathInsert l i s).1.length ≤ 4096 := by
 rw [pathInsert] at h ⊢
 split at h
 ·rename_i h1; exact absurd h h1
 ·rename_i h1
  rw [if_neg h1]
  split at h
  ·exact absurd h (by show ¬ (30 : Int) = 0; decide)
  ·rename_i h2
   rw [if_neg h2]
   exact checked_len h
theorem delete_len {l : List Sg} {i : Int} (h : (pathDelete l i).2 = 0) : (pathDelete l i).1.length ≤ 4096 := by
 rw [pathDelete] at h ⊢
 split at h
 ·rename_i h1; exact absurd h h1
 ·rename_i h1
  rw [if_neg h1]
  exact checked_len h
theorem put_len {l : List Sg} {i k : Int} {p : Pt} (h : (pathPut l i k p).2 = 0) : (pathPut l i k p).1.length ≤ 4096 := by
 rw [pathPut] at h ⊢
 split at h
 ·rename_i h1; exact absurd h h1
 ·rename_i h1
  rw [if_neg h1]
  split at h
  ·exact absurd h (by show ¬ (30 : Int) = 0; decide)
  ·rename_i h2
   rw [if_neg h2]
   exact checked_len h
theorem split_len {l : List Sg} {i : Int} (h : (pathSplit l i).2 = 0) : (pathSplit l i).1.length ≤ 4096 := by
 rw [pathSplit] at h ⊢
 split at h
 ·rename_i h1; exact absurd h h1
 ·rename_i h1
  obtain ⟨_, h0, h2, h3⟩ := atSeg_ok (Decidable.of_not_not h1)
  rw [if_neg h1]
  split at h
  ·exact absurd h (by show ¬ (33 : Int) = 0; decide)
  ·rename_i h4
   rw [if_neg h4]
   split at h
   ·exact absurd h (by show ¬ (36 : Int) = 0; decide)
   ·rename_i h5
    rw [if_neg h5]
    show (l.take i.toNat ++ _ :: _ :: l.drop (i.toNat + 1)).length ≤ 4096
    simp only [List.length_append, List.length_cons, List.length_take, List.length_drop]
    omega
theorem change_lim {a : Atr} {c : Cm} (ha : a.lim) (h : (change a c).2.2 = 0) : (change a c).1.lim := by
 obtain ⟨h1, h2, h3, h4⟩ := ha
 rw [change] at h ⊢
 split at h
 ·rename_i k; rw [if_pos k]; exact ⟨h1, h2, h3, h4⟩
 rename_i k6
 rw [if_neg k6]
 split at h
 ·rename_i k; rw [if_pos k]
  obtain ⟨q1, q2, q3⟩ := Sty.check_lim (s := c.atr.sty) h
  exact ⟨h1, by show c.atr.sty.fill.stops.length ≤ _; omega, by show c.atr.sty.pen.stops.length ≤ _; omega, by show c.atr.sty.dash.length ≤ _; omega⟩
 rename_i k7
 rw [if_neg k7]
 split at h
 ·rename_i k; rw [if_pos k]
  have := pathCheck_lim (l := c.atr.path) h
  exact ⟨by show c.atr.path.length ≤ _; omega, h2, h3, h4⟩
 rename_i k8
 rw [if_neg k8]
 split at h
 ·rename_i k; rw [if_pos k]
  have := insert_len h
  exact ⟨by show (pathInsert a.path c.i c.seg).1.length ≤ _; omega, h2, h3, h4⟩
 rename_i k9
 rw [if_neg k9]
 split at h
 ·rename_i k; rw [if_pos k]
  have := delete_len h
  exact ⟨by show (pathDelete a.path c.i).1.length ≤ _; omega, h2, h3, h4⟩
 rename_i k10
 rw [if_neg k10]
 split at h
 ·rename_i k; rw [if_pos k]
  have := put_len h
  exact ⟨by show (pathPut a.path c.i c.k c.point).1.length ≤ _; omega, h2, h3, h4⟩
 rename_i k11
 rw [if_neg k11]
 have := split_len h
 exact ⟨by show (pathSplit a.path c.i).1.length ≤ _; omega, h2, h3, h4⟩
end Go.Dc
namespace Go.Proofs.YtggcpoleklcmkaaGreatDoor
open Go.Sl Go.Ls Go.Tr Go.Dc
attribute [local irreducible] WC WL WX WK WA WAK Val Ctr RunRes ResIs Rd At sl box pt Exit.then Exit.inBlock bodyPost Code.wp wpList
theorem dSet (D : Dm) (d : Dr) (c : Cm) (e t u dd q : Value) (I : Mem) (hN : NeedAt I) (hD : DAbs I D d) (hc : c.at_ I e t u dd q) (hk6 : 6 ≤ c.kind) (hk12 : c.kind ≤ 12) (hs0 : 0 ≤ d.segs) (hs1 : d.segs ≤ 1048576) :
  Ctr Tryz.prog 71 [ptr D.b, .agg (c.cs e t u dd q).toArray] I D.hp (ApplyR (d.set c) D) := by
 have hc0 := hc
 have hsg := hD.segs
 obtain ⟨x0, y0, x1, y1, x2, y2, x3, y3, x4, y4, rfl, rfl, rfl, rfl, rfl⟩ := hc.sl
 obtain ⟨ta, ua, da, qa, hv, haa⟩ := hD.rep.get c.id
 have hsm := hD.rep.some c.id
 have hla : ((d.at_ c.id).getD Atr.z).lim := by
  cases h : d.at_ c.id with
  | none => exact ⟨by decide, by decide, by decide, by decide⟩
  | some a => exact hD.lim _ _ h
 generalize hga : (d.at_ c.id).getD Atr.z = a at hv haa hla
 generalize hbb : (d.at_ c.id).isSome = bb at hsm
 have haa0 := haa
 obtain ⟨a1, c1, a2, c2, a3, c3, a4, c4, rfl, rfl, rfl, rfl⟩ := haa.sl
 refine Ctr.intro Tryz.func71 rfl rfl rfl fun E F => ?_
 refine jS (WL.boxA rfl rfl (fun _ => ?_))
 refine jW ?_
 refine WL.alloc rfl (fun _ => ?_)
 refine jW ?_
 refine jf rfl (jM (jB ?_))
 rename_i g3 g4
 refine j8 999 [1, 1, 6] rfl (jT 0 rfl (Val.moveP rfl) (jT 1 rfl (jr rfl) (jT 2 rfl (jn rfl) (jT 3 rfl (jp 0 rfl rfl rfl) (jT 4 rfl (jn rfl) (jT 5 rfl (jp 2 rfl rfl rfl) (jT 6 rfl (Val.lookup2v 1 hv hsm rfl rfl rfl) ?_)))))))
 refine jT 7 rfl (Val.moveT rfl) (jT 8 rfl (Val.extractA rfl rfl) (jT 9 rfl (Val.extractB rfl rfl) (j5 10 rfl (WL.alloc rfl (fun _ => ?_)))))
 rename_i g6
 refine jW ?_
 refine jC (j7 [1, 1, 6] rfl (j5 11 rfl (WL.stA 10 rfl rfl rfl rfl ?_)))
 refine jC (j7 [1, 1, 6] rfl (jT 12 rfl (Val.assignB rfl) (j6 ?_)))
 by_cases h0 : c.id = 0
 ·rw [show d.set c = (d, Cm.z, 30) by rw [Dr.set, if_pos h0]]
  refine jA (jB (WC.block (jS (jm (jn rfl) (jm (jp 8 rfl rfl rfl) (jw rfl rfl (jg rfl (jM (jF (jS (jm (Val.build0) ?_)))))))))))
  refine WL.stA 9 rfl rfl rfl rfl ?_
  refine jf rfl (jM (jR (WX.inRet (jU ?_))))
  exact jP [0, 0, 0, 0, 0, 0, 0] (jr2 rfl (jcL 9 rfl rfl rfl) (jtI rfl)) ⟨D, _, rfl, Cm.z_rep _, rfl, rfl, hD⟩
 cases bb with
 | false =>
  have hn : d.at_ c.id = none := by
   cases h : d.at_ c.id with
   | none => rfl
   | some a => rw [h] at hbb; cases hbb
  rw [show d.set c = (d, Cm.z, 31) by rw [Dr.set, if_neg h0, hn]]
  refine jA (jB (WC.block (jS (jm (jn rfl) (jm (jp 8 rfl rfl rfl) (jv rfl rfl (jg rfl (jM (jE (jS (jb rfl (jl rfl (jg rfl (jM (jF (jS (jm (Val.build0) ?_)))))))))))))))))
  refine WL.stA 9 rfl rfl rfl rfl ?_
  refine jf rfl (jM (jR (WX.inRet (jU ?_))))
  exact jP [0, 0, 0, 0, 0, 0, 0] (jr2 rfl (jcL 9 rfl rfl rfl) (jtI rfl)) ⟨D, _, rfl, Cm.z_rep _, rfl, rfl, hD⟩
 | true =>
  have hn : d.at_ c.id = some a := by
   cases h : d.at_ c.id with
   | none => rw [h] at hbb; cases hbb
   | some a' => rw [h] at hga; rw [← hga]; rfl
  have hset : d.set c = if 8 ≤ c.kind ∧ ((Nd.find c.id d.top).map Nd.grp).getD false = true then (d, Cm.z, 33)
   else if (change a c).2.2 ≠ 0 then (d, Cm.z, (change a c).2.2)
   else if mostSegs < d.segs + (change a c).1.path.length - a.path.length then (d, Cm.z, 36)
   else (⟨d.top, upAt d.at_ c.id (change a c).1, d.segs + (change a c).1.path.length - a.path.length⟩, { (change a c).2.1 with id := c.id }, 0) := by
   rw [Dr.set, if_neg h0, hn]
  rw [hset]
  clear hset
  refine jA (jB (WC.block (jS (jm (jn rfl) (jm (jp 8 rfl rfl rfl) (jv rfl rfl (jg rfl (jM (jE (jS (jb rfl (jl rfl (jg rfl (jM (jE (jB ?_))))))))))))))))
  refine WC.cutP (fun ρ' I' L' => I' = I ∧ ρ' 0 = ptr D.b ∧ ρ' 3 = ptr g3 ∧ ρ' 4 = ptr g4 ∧ ρ' 6 = ptr g6 ∧ ρ' 31 = .bool (decide (8 ≤ c.kind) && ((Nd.find c.id d.top).map Nd.grp).getD false) ∧ L' = F :: (D.hp ++ [box g3 59 (c.cs (.slice x0 c.ents.length y0) (.slice x1 c.atr.sty.fill.stops.length y1) (.slice x2 c.atr.sty.pen.stops.length y2) (.slice x3 c.atr.sty.dash.length y3) (.slice x4 c.atr.path.length y4)), box g4 59 (Cm.cs Cm.z (.slice none 0 0) (.slice none 0 0) (.slice none 0 0) (.slice none 0 0) (.slice none 0 0)), box g6 38 (a.cs (.slice a1 a.sty.fill.stops.length c1) (.slice a2 a.sty.pen.stops.length c2) (.slice a3 a.sty.dash.length c3) (.slice a4 a.path.length c4))])) ?_ ?_
  ·by_cases h8 : 8 ≤ c.kind
   ·rw [decide_eq_true h8, Bool.true_and]
    refine j8 999 [1, 7] rfl (jT 0 rfl (jn rfl) (jT 1 rfl (jp 1 rfl rfl rfl) (jT 2 rfl (Val.geq rfl rfl (decide_eq_true (by omega))) ?_)))
    refine jT 3 rfl (Val.moveB rfl) (jT 4 rfl (Val.moveP rfl) (jT 5 rfl (jr rfl) (jT 6 rfl (jn rfl) (jT 7 rfl (jp 0 rfl rfl rfl) (jT 8 rfl (jn rfl) (jT 9 rfl (jp 1 rfl rfl rfl) (j5 10 rfl (jG (WL.callK [3, 3, 3, 3, 3] rfl rfl rfl (aIsGroup D.A d.top hD.abs c.id _) rfl ?_)))))))))
    rintro _ rfl
    refine jC (j7 [1, 7] rfl (jT 11 rfl (Val.pick rfl) (jT 12 rfl (Val.assignB rfl) (j6 ?_))))
    refine WX.thenK (WK.meet ?_)
    exact ⟨rfl, rfl, rfl, rfl, rfl, rfl, rfl⟩
   ·rw [decide_eq_false h8, Bool.false_and]
    refine j8 999 [1, 7] rfl (jT 0 rfl (jn rfl) (jT 1 rfl (jp 1 rfl rfl rfl) (jT 2 rfl (Val.geq rfl rfl (decide_eq_false (by omega))) ?_)))
    refine jT 3 rfl (Val.moveB rfl) (jI 4 rfl (jI 5 rfl (jI 6 rfl (jI 7 rfl (jI 8 rfl (jI 9 rfl (jI 10 rfl (jT 11 rfl (Val.pick rfl) (jT 12 rfl (Val.assignB rfl) (j6 ?_))))))))))
    refine WX.thenK (WK.meet ?_)
    exact ⟨rfl, rfl, rfl, rfl, rfl, rfl, rfl⟩
  rintro ρ' I' L' ⟨rfl, r0, r3, r4, r6, r31, rfl⟩
  refine ju5 r31 r6 r4 r3 r0 ?_
  change WC _ _ _ _ [F, docBox D.b D.A.b D.mb D.segs, mp D.mb D.f D.cnt, _, _, _, _, _, _, _, _] _
  by_cases hgr : 8 ≤ c.kind ∧ ((Nd.find c.id d.top).map Nd.grp).getD false = true
  ·rw [if_pos hgr, hgr.2, decide_eq_true hgr.1, Bool.and_true]
   refine jF (jS (jm (Val.build0) ?_))
   refine WL.stA 9 rfl rfl rfl rfl ?_
   refine jf rfl (jM (jR (WX.inRet (jU ?_))))
   exact jP [0, 0, 0, 0, 0, 0, 0] (jr2 rfl (jcL 9 rfl rfl rfl) (jtI rfl)) ⟨D, _, rfl, Cm.z_rep _, rfl, rfl, hD⟩
  rw [if_neg hgr, show (decide (8 ≤ c.kind) && ((Nd.find c.id d.top).map Nd.grp).getD false) = false by
   rw [Bool.and_eq_false_iff]
   by_cases h8 : 8 ≤ c.kind
   ·exact .inr (by cases h : ((Nd.find c.id d.top).map Nd.grp).getD false with
     | false => rfl
     | true => exact absurd ⟨h8, h⟩ hgr)
   ·exact .inl (decide_eq_false h8)]
  refine jE (jV (WX.inNormal (jK (jm (jt 10 rfl rfl rfl) (jm (jt 8 rfl rfl rfl) (WL.callR [] rfl rfl rfl (change_ctr a c _ _ _ _ _ _ _ _ _ _ hN haa hla hc hk6 hk12) rfl ?_))))))
  rintro _ I3 hI3 ⟨_, _, rfl, ⟨t1, u1, d1, q1, rfl, hA⟩, ⟨e2, t2, u2, d2, q2, rfl, hB⟩⟩
  have hlim := change_lim (c := c) hla
  generalize change a c = ch at *
  have hA0 := hA
  have hB0 := hB
  obtain ⟨m1, n1, m2, n2, m3, n3, m4, n4, rfl, rfl, rfl, rfl⟩ := hA.sl
  obtain ⟨p0, o0, p1, o1, p2, o2, p3, o3, p4, o4, rfl, rfl, rfl, rfl, rfl⟩ := hB.sl
  by_cases he : ch.2.2 = 0
  case neg =>
   rw [if_pos he]
   refine je rfl (jm (Val.extractA rfl rfl) (jm (Val.extractA rfl rfl) (jm (jq rfl rfl) (WL.alloc rfl (fun _ => ?_)))))
   refine jW ?_
   refine WL.alloc rfl (fun _ => ?_)
   refine jW ?_
   refine WL.stA 11 rfl rfl rfl rfl ?_
   refine WL.stA 12 rfl rfl rfl rfl ?_
   refine jf rfl (jM (jB (jS (ja rfl (jJ rfl rfl (jM (jF (jS (jm (Val.build0) ?_)))))))))
   refine ja rfl (WL.stA 9 rfl rfl rfl rfl ?_)
   refine jf rfl (jM (jR (jU ?_)))
   exact jP [0, 0, 0, 0, 0, 0, 0] (jr2 rfl (jcL 9 rfl rfl rfl) (jtI rfl)) ⟨D, _, rfl, Cm.z_rep _, rfl, rfl, hD.mono hI3⟩
  rw [if_neg (fun e => e he)]
  obtain ⟨l1, l2, l3, l4⟩ := hla
  obtain ⟨b1, b2, b3, b4⟩ := hlim he
  refine je rfl (jm (Val.extractA rfl rfl) (jm (Val.extractA rfl rfl) (jm (jq rfl rfl) (WL.alloc rfl (fun _ => ?_)))))
  refine jW ?_
  refine WL.alloc rfl (fun _ => ?_)
  refine jW ?_
  refine WL.stA 11 rfl rfl rfl rfl ?_
  refine WL.stA 12 rfl rfl rfl rfl ?_
  refine jf rfl (jM (jB (jS (ja rfl (jz rfl rfl (jM (jE (jV (jA (jB ?_))))))))))
  rename_i g8 g9
  refine j8 999 [1, 9, 9] rfl (jT 0 rfl (Val.moveP rfl) (jT 1 rfl (jr rfl) (jT 2 rfl (jn rfl) (jT 3 rfl (jp 0 rfl rfl rfl) (jT 4 rfl (jn rfl) (jT 5 rfl (jp 2 rfl rfl rfl) (jT 6 rfl (jo rfl) (jT 7 rfl (Val.add rfl rfl (wrap_i64 (by omega) (by omega))) ?_))))))))
  refine jT 8 rfl (jn rfl) (jT 9 rfl (jp 1 rfl rfl rfl) (jT 10 rfl (jo rfl) (jT 11 rfl (Val.sub rfl rfl (wrap_i64 (by omega) (by omega))) ?_)))
  refine jT 12 rfl (Val.assignI rfl) (j6 ?_)
  rw [hsg]
  by_cases hm : mostSegs < d.segs + ch.1.path.length - a.path.length
  ·rw [if_pos hm]
   have hm2 : (1048576 : Int) < d.segs + ch.1.path.length - a.path.length := hm
   refine jA (jB (jS (ja rfl (jO rfl rfl (jM (jF (jS (jm (Val.build0) ?_))))))))
   refine WL.stA 9 rfl rfl rfl rfl ?_
   refine jf rfl (jM (jR (jU ?_)))
   exact jP [0, 0, 0, 0, 0, 0, 0] (jr2 rfl (jcL 9 rfl rfl rfl) (jtI rfl)) ⟨{ D with segs := d.segs }, _, rfl, Cm.z_rep _, rfl, rfl, ⟨hD.abs, hD.rep.mono hI3, rfl, hD.dom, hD.lim⟩⟩
  rw [if_neg hm]
  have hm2 : ¬ (1048576 : Int) < d.segs + ch.1.path.length - a.path.length := hm
  obtain ⟨w, hfv⟩ : ∃ w, D.f c.id = some w := Option.isSome_iff_exists.1 hsm
  refine jA (jB (jS (ja rfl (jL rfl rfl (jM (jE (jV (jK (jm (jn rfl) (jm (jp 8 rfl rfl rfl) (jm (jn rfl) (WL.stI 12 rfl rfl rfl rfl ?_))))))))))))
  refine jM (jB (j8 15 [1, 7, 9] rfl (jT 0 rfl (Val.moveP rfl) (jT 1 rfl (jr rfl) (jT 2 rfl (jn rfl) (jT 3 rfl (jp 0 rfl rfl rfl) (jT 4 rfl (jn rfl) (jT 5 rfl (jp 1 rfl rfl rfl) (jT 6 rfl (Val.moveP rfl) (jT 7 rfl (jt 2 rfl rfl rfl) (jT 9 rfl (Val.moveI rfl) (j5 8 rfl (WL.callR [] rfl rfl rfl (copied_ctr ch.1 _ _ _ _ _ hA0 (hlim he)) rfl ?_)))))))))))))
  rintro _ I4 hI4 ⟨t5, u5, d5, q5, rfl, h5⟩
  refine jC (j9 [1, 7, 9] (hI4) rfl (j5 10 rfl (WL.mapEntry 2 rfl rfl rfl hfv rfl fun aa cc jj ee z1 z2 z3 z4 => ?_)))
  refine WL.nSet ?_
  refine jC (j9 [1, 7, 9] (hI4) rfl (jT 11 rfl (jq rfl rfl) (j5 12 rfl (WL.entryStore 2 rfl rfl rfl z1 z2 z3 z4 ?_))))
  refine WL.nSet ?_
  refine jC (j9 [1, 7, 9] (hI4) rfl (j5 13 rfl (jm (jr rfl) (jC (j9 [1, 7, 9] (hI4) rfl (j5 14 rfl (jm (jn rfl) (jC (j9 [1, 7, 9] (hI4) rfl (j5 15 rfl (WL.stI 1 rfl rfl rfl rfl ?_)))))))))))
  refine jC (WK.anyLast (WA.done (by kernel_rfl) (jK (jm (jt 12 rfl rfl rfl) (WL.stA 9 rfl rfl rfl rfl ?_)))))
  refine jf rfl (jM (jR ?_))
  have hJ := hI3.trans hI4
  exact jP [0, 0, 0, 0, 0, 0, 0] (jr2 rfl (jcL 9 rfl rfl rfl) (jtI rfl)) ⟨{ D with f := Sl.put D.f c.id _, segs := _ }, _, rfl, ⟨_, _, _, _, _, rfl, (hB0.mono hI4).withId hc.id⟩, rfl, rfl, ⟨hD.abs, (hD.rep.mono hJ).up ⟨_, _, _, _, rfl, h5⟩ _, rfl, dom_up hD.dom hn, lim_up hD.lim (hlim he) _⟩⟩
end Go.Proofs.YtggcpoleklcmkaaGreatDoor

namespace Go.Tr
open Go.Sl Go.Ls
namespace Nd
theorem kids_lt (n : Nd) : Nd.sizes n.kids < n.size := by
 cases n with
 | mk i g ks => rw [Nd.size]; show Nd.sizes ks < 1 + Nd.sizes ks; omega
theorem move_rem {top : Nd} {i p ix : Int} (h : (Nd.move top i p ix).2 = 0) : (Nd.remove top i).2.2.2.2 = 0 := by
 rw [Nd.move] at h
 split at h
 ·rename_i h0; exact absurd h h0
 ·rename_i h0; exact Decidable.of_not_not h0
theorem unwrap_rem {top : Nd} {i : Int} (h : (Nd.unwrap top i).2.2.2.2 = 0) : (Nd.remove top i).2.2.2.2 = 0 := by
 rw [Nd.unwrap] at h
 split at h
 ·rename_i h0; exact absurd h h0
 ·rename_i h0; exact Decidable.of_not_not h0
end Nd
section
variable {A : Ar} {top : Nd}
open Nd
theorem i64nat {k : Nat} (h : k ≤ 1000000) : I64 (k : Int) := ⟨by show (-9223372036854775808 : Int) ≤ _; omega, by show _ ≤ (9223372036854775807 : Int); omega⟩
theorem Abs.rem_small (hA : Abs A top) {i : Int} (h : (Nd.remove top i).2.2.2.2 = 0) : I64 (Nd.remove top i).2.2.1 ∧ I64 (Nd.remove top i).2.2.2.1 ∧ (Nd.remove top i).2.1.size ≤ 100000 ∧ Nd.whr i top = some ((Nd.remove top i).2.2.1, (Nd.remove top i).2.2.2.1) := by
 have hs := hA.size_le
 rcases hA.rem i with ⟨h0, _⟩ | ⟨p, k, hk, hi, hid, hfi, hw, hf, e, o1, o2, o3⟩
 ·exact absurd h h0
 ·rw [e]
  have h1 := Nd.find_size i _ _ hfi
  have h2 := Nd.find_size p.id _ _ hf
  have h3 := Nd.len_le_sizes p.kids
  have h4 := Nd.kids_lt p
  refine ⟨hA.i64 _ ?_, i64nat (by omega), by show (p.kids[k]).size ≤ _; omega, hw⟩
  exact (find_some p.id top).1 (by rw [hf]; rfl)
theorem Abs.unwrap_small (hA : Abs A top) {i : Int} (h : (Nd.unwrap top i).2.2.2.2 = 0) : I64 (Nd.unwrap top i).2.1 ∧ I64 (Nd.unwrap top i).2.2.1 ∧ I64 (Nd.unwrap top i).2.2.2.1 := by
 obtain ⟨h1, h2, h3, _⟩ := hA.rem_small (unwrap_rem h)
 rw [Nd.unwrap] at h ⊢
 split at h
 ·rename_i h0; exact absurd h h0
 rename_i h0
 rw [if_neg h0]
 split at h
 ·exact absurd h (by show ¬ (33 : Int) = 0; decide)
 rename_i hg
 rw [if_neg hg]
 have h5 := Nd.len_le_sizes (Nd.remove top i).2.1.kids
 have h6 := Nd.kids_lt (Nd.remove top i).2.1
 exact ⟨h1, h2, i64nat (by omega)⟩
end
end Go.Tr
namespace Go.Dc
open Go.Sl Go.Ls Go.Tr
theorem dom_move {at_ : Int → Option Atr} {o o' : List Int} (hdom : ∀ i, (at_ i).isSome = true ↔ i ≠ 0 ∧ i ∈ o) (hc : ∀ x, o'.count x = o.count x) : ∀ i, (at_ i).isSome = true ↔ i ≠ 0 ∧ i ∈ o' := by
 intro i
 rw [hdom i, mem_count, mem_count, hc i]
theorem dom_unwrap {at_ : Int → Option Atr} {o o' : List Int} {j : Int} (hdom : ∀ i, (at_ i).isSome = true ↔ i ≠ 0 ∧ i ∈ o) (hn : o.Nodup) (hc : ∀ x, o'.count x + (if j = x then 1 else 0) = o.count x) : ∀ i, (downAt at_ j i).isSome = true ↔ i ≠ 0 ∧ i ∈ o' := by
 intro i
 have h1 := hc i
 have h2 := nodup_count hn i
 rw [downAt, mem_count]
 by_cases h : i = j
 ·subst h
  rw [if_pos rfl] at h1 ⊢
  constructor
  ·intro h; cases h
  ·rintro ⟨_, h3⟩; omega
 ·rw [if_neg h, hdom i, mem_count]
  rw [if_neg (fun e => h e.symm)] at h1
  rw [← h1, Nat.add_zero]
theorem dropAll_some : ∀ (l : List Ent) (f : Int → Option Atr) (i : Int), (dropAll f l i).isSome = true ↔ (f i).isSome = true ∧ i ∉ l.map Ent.id
 | [], f, i => by simp [dropAll]
 | x :: l, f, i => by
  rw [dropAll, dropAll_some l, downAt, List.map_cons, List.mem_cons]
  by_cases h : i = x.id
  ·simp [h]
  ·simp [h]
theorem dropAll_of : ∀ (l : List Ent) (f : Int → Option Atr) (i : Int) (a : Atr), dropAll f l i = some a → f i = some a
 | [], f, i, a, h => h
 | x :: l, f, i, a, h => by
  rw [dropAll] at h
  have h := dropAll_of l _ i a h
  rw [downAt] at h
  split at h
  ·cases h
  ·exact h
theorem dropAll_snoc : ∀ (l : List Ent) (f : Int → Option Atr) (x : Ent), dropAll f (l ++ [x]) = downAt (dropAll f l) x.id
 | [], f, x => rfl
 | y :: l, f, x => by rw [List.cons_append, dropAll, dropAll, dropAll_snoc l]
theorem dom_remove {at_ : Int → Option Atr} {o o' m : List Int} {l : List Ent} (hdom : ∀ i, (at_ i).isSome = true ↔ i ≠ 0 ∧ i ∈ o) (hn : o.Nodup) (hm : l.map Ent.id = m) (hc : ∀ x, o'.count x + m.count x = o.count x) : ∀ i, (dropAll at_ l i).isSome = true ↔ i ≠ 0 ∧ i ∈ o' := by
 intro i
 have h1 := hc i
 have h2 := nodup_count hn i
 rw [dropAll_some, hm, hdom i]
 simp only [mem_count]
 omega
theorem ents_ids (at_ : Int → Atr) (n : Nd) : (ents at_ n).map Ent.id = n.order := by
 refine Nd.rec (motive_1 := fun n => (ents at_ n).map Ent.id = n.order) (motive_2 := fun l => (entss at_ l).map Ent.id = Nd.orders l) ?_ ?_ ?_ n
 ·intro i g ks h
  rw [ents, Nd.order, List.map_cons, h]
 ·rw [entss, Nd.orders]; rfl
 ·intro k ks h1 h2
  rw [entss, Nd.orders, List.map_append, h1, h2]
theorem ents_atr {at_ : Int → Atr} {n : Nd} {x : Ent} : x ∈ ents at_ n → x.atr = at_ x.id := by
 refine Nd.rec (motive_1 := fun n => x ∈ ents at_ n → x.atr = at_ x.id) (motive_2 := fun l => x ∈ entss at_ l → x.atr = at_ x.id) ?_ ?_ ?_ n
 ·intro i g ks h hx
  rw [ents] at hx
  rcases List.mem_cons.1 hx with rfl | hx
  ·rfl
  ·exact h hx
 ·intro hx; rw [entss] at hx; cases hx
 ·intro k ks h1 h2 hx
  rw [entss] at hx
  rcases List.mem_append.1 hx with hx | hx
  ·exact h1 hx
  ·exact h2 hx
theorem segsOf_nonneg : ∀ l : List Ent, 0 ≤ segsOf l
 | [] => Int.le_refl _
 | x :: l => by
  have := segsOf_nonneg l
  show 0 ≤ (x.atr.path.length : Int) + segsOf l
  omega
theorem segsOf_le {m : Nat} : ∀ {l : List Ent}, (∀ x ∈ l, x.atr.path.length ≤ m) → segsOf l ≤ l.length * m
 | [], _ => by show (0 : Int) ≤ _; simp
 | x :: l, h => by
  have h1 := segsOf_le (l := l) fun y hy => h y (.tail _ hy)
  have h2 := h x (.head _)
  show (x.atr.path.length : Int) + segsOf l ≤ _
  rw [List.length_cons, Int.natCast_add, Int.add_mul]
  omega
theorem AtRep.down {I : Mem} {at_ : Int → Option Atr} {f : Int → Option Value} (h : AtRep I at_ f) (j : Int) : AtRep I (downAt at_ j) (Sl.del f j) := fun i => by
 rw [downAt, Sl.del]
 by_cases hi : i = j
 ·rw [if_pos hi, if_pos hi]
  exact .inl ⟨rfl, rfl⟩
 ·rw [if_neg hi, if_neg hi]
  exact h i
theorem lim_down {at_ : Int → Option Atr} (h : ∀ i a, at_ i = some a → a.lim) (j : Int) : ∀ i a, downAt at_ j i = some a → a.lim := fun i a ha => by
 rw [downAt] at ha
 split at ha
 ·cases ha
 ·exact h i a ha
end Go.Dc

namespace Go.Proofs.YtggcpoleklcmkaaGreatDoor
open Go.Sl Go.Ls Go.Tr Go.Dc
attribute [local irreducible] WC WL WX WK WA WAK Val Ctr RunRes ResIs Rd At sl box pt Exit.then Exit.inBlock bodyPost Code.wp wpList
theorem whr_v (r : Option (Int × Int)) : ∃ b, whrV r = .tuple #[vi (r.getD (0, 0)).1, vi (r.getD (0, 0)).2, .bool b] := by
 cases r with
 | none => exact ⟨false, rfl⟩
 | some q => exact ⟨true, rfl⟩
theorem dMove (D : Dm) (d : Dr) (c : Cm) (e t u dd q : Value) (I : Mem) (hD : DAbs I D d) (hc : c.at_ I e t u dd q) :
  Ctr Tryz.prog 68 [ptr D.b, .agg (c.cs e t u dd q).toArray] I D.hp (ApplyR (d.move c) D) := by
 obtain ⟨x0, y0, x1, y1, x2, y2, x3, y3, x4, y4, rfl, rfl, rfl, rfl, rfl⟩ := hc.sl
 obtain ⟨wb, hw⟩ := whr_v (Nd.whr c.id d.top)
 have hmv : d.move c = if (Nd.move d.top c.id c.parent c.index).2 ≠ 0 then (d, Cm.z, (Nd.move d.top c.id c.parent c.index).2) else ({ d with top := (Nd.move d.top c.id c.parent c.index).1 }, { Cm.z with kind := 3, id := c.id, parent := ((Nd.whr c.id d.top).getD (0, 0)).1, index := ((Nd.whr c.id d.top).getD (0, 0)).2 }, 0) := by
  rw [Dr.move]
 rw [hmv]
 clear hmv
 refine Ctr.intro Tryz.func68 rfl rfl rfl fun E F => ?_
 refine jS (WL.boxA rfl rfl (fun _ => ?_))
 refine jW ?_
 refine WL.alloc rfl (fun _ => ?_)
 refine jW ?_
 refine jf rfl (jM (jB ?_))
 rename_i g3 g4
 refine j8 999 [1, 7] rfl (jT 0 rfl (Val.moveP rfl) (jT 1 rfl (jr rfl) (jT 2 rfl (jn rfl) (jT 3 rfl (jp 0 rfl rfl rfl) (jT 4 rfl (jn rfl) (jT 5 rfl (jp 1 rfl rfl rfl) (j5 6 rfl (WL.callK [3, 3, 3, 3, 3] rfl rfl rfl (aWhere D.A d.top hD.abs c.id _) rfl ?_))))))))
 rintro _ rfl
 rw [hw]
 refine jC (j7 [1, 7] rfl (jT 7 rfl (Val.moveT rfl) (jT 8 rfl (jq rfl rfl) (jT 9 rfl (jq rfl rfl) (jT 10 rfl (Val.extractB rfl rfl) (jT 11 rfl (Val.assignI rfl) (jT 12 rfl (Val.assignI rfl) (jT 13 rfl (Val.assignB rfl) (j6 (jA (jB (jB (j8 999 [1, 7] rfl (jT 0 rfl (Val.moveP rfl) (jT 1 rfl (jr rfl) (jT 2 rfl (jn rfl) (jT 3 rfl (jp 0 rfl rfl rfl) (jT 4 rfl (jn rfl) (jT 5 rfl (jp 1 rfl rfl rfl) (jT 6 rfl (jn rfl) (jT 7 rfl (jp 1 rfl rfl rfl) (jT 8 rfl (jn rfl) (jT 9 rfl (jp 1 rfl rfl rfl) (j5 10 rfl (WL.callP [3, 3, 3, 3, 3] rfl rfl (tMove D.A d.top hD.abs c.id c.parent c.index _) rfl ?_)))))))))))))))))))))))))
 rintro _ I1 _ hI1 ⟨rfl, B, hb, rfl, hB⟩
 refine jW ?_
 refine jC (j9 [1, 2] (hI1) rfl (jT 11 rfl (Val.assignI rfl) (j6 ?_)))
 rw [← hb]
 by_cases h2 : (Nd.move d.top c.id c.parent c.index).2 = 0
 case neg =>
  rw [if_pos h2]
  refine jK (ja rfl (jJ rfl rfl (jM (jF (jS (jm (Val.build0) ?_))))))
  refine ja rfl (WL.stA 4 rfl rfl rfl rfl ?_)
  refine jf rfl (jM (jR (jU ?_)))
  refine jP [0, 0, 2, 2, 2, 2, 2] (jr2 rfl (jcL 4 rfl rfl rfl) (jtI rfl)) ?_
  rw [Nd.move_err h2] at hB
  exact ⟨{ D with A := B }, _, rfl, Cm.z_rep _, rfl, rfl, ⟨hB, hD.rep.mono hI1, hD.segs, hD.dom, hD.lim⟩⟩
 rw [if_neg (fun e => e h2)]
 obtain ⟨r1, r2, _, r4⟩ := hD.abs.rem_small (Nd.move_rem h2)
 refine jK (ja rfl (jz rfl rfl (jM (jE (jV (jK (jm (jn rfl) (jm (jp 3 rfl rfl rfl) (ja rfl (ja rfl (jm (Val.build (cs := (Cm.cs { Cm.z with kind := 3, id := c.id, parent := ((Nd.whr c.id d.top).getD (0, 0)).1, index := ((Nd.whr c.id d.top).getD (0, 0)).2 } (.slice none 0 0) (.slice none 0 0) (.slice none 0 0) (.slice none 0 0) (.slice none 0 0))) rfl) ?_)))))))))))
 refine WL.stA 4 rfl rfl rfl rfl ?_
 refine jf rfl (jM (jR ?_))
 refine jP [0, 0, 2, 2, 2, 2, 2] (jr2 rfl (jcL 4 rfl rfl rfl) (jtI rfl)) ?_
 refine ⟨{ D with A := B }, _, rfl, ⟨_, _, _, _, _, rfl, (⟨by decide, by decide⟩ : I64 3), hc.id, ?_, ?_, i64z, i64z, i64z, LsAt.nil _ _, Atr.z_at _, Sg.z_ok, Pt.z_ok⟩, rfl, rfl, ⟨hB, hD.rep.mono hI1, hD.segs, dom_move hD.dom (hD.abs.count_move h2), hD.lim⟩⟩
 ·rw [r4]; exact r1
 ·rw [r4]; exact r2
theorem dUnwrap (D : Dm) (d : Dr) (c : Cm) (e t u dd q : Value) (I : Mem) (hD : DAbs I D d) (hc : c.at_ I e t u dd q) :
  Ctr Tryz.prog 70 [ptr D.b, .agg (c.cs e t u dd q).toArray] I D.hp (ApplyR (d.unwrap c) D) := by
 obtain ⟨x0, y0, x1, y1, x2, y2, x3, y3, x4, y4, rfl, rfl, rfl, rfl, rfl⟩ := hc.sl
 obtain ⟨ta, ua, da, qa, hv, haa⟩ := hD.rep.get c.id
 have hmv : d.unwrap c = if (Nd.unwrap d.top c.id).2.2.2.2 ≠ 0 then (d, Cm.z, (Nd.unwrap d.top c.id).2.2.2.2) else (⟨(Nd.unwrap d.top c.id).1, downAt d.at_ c.id, d.segs⟩, { Cm.z with kind := 4, id := c.id, parent := (Nd.unwrap d.top c.id).2.1, index := (Nd.unwrap d.top c.id).2.2.1, count := (Nd.unwrap d.top c.id).2.2.2.1, atr := (d.at_ c.id).getD Atr.z }, 0) := by
  rw [Dr.unwrap]; rfl
 rw [hmv]
 clear hmv
 generalize (d.at_ c.id).getD Atr.z = a at hv haa ⊢
 have haa0 := haa
 obtain ⟨a1, c1, a2, c2, a3, c3, a4, c4, rfl, rfl, rfl, rfl⟩ := haa.sl
 refine Ctr.intro Tryz.func70 rfl rfl rfl fun E F => ?_
 refine jS (WL.boxA rfl rfl (fun _ => ?_))
 refine jW ?_
 refine WL.alloc rfl (fun _ => ?_)
 refine jW ?_
 refine jf rfl (jM (jB ?_))
 rename_i g3 g4
 refine j8 999 [1, 7] rfl (jT 0 rfl (Val.moveP rfl) (jT 1 rfl (jr rfl) (jT 2 rfl (jn rfl) (jT 3 rfl (jp 0 rfl rfl rfl) (jT 4 rfl (jn rfl) (jT 5 rfl (jp 1 rfl rfl rfl) (j5 6 rfl (WL.callP [3, 3, 3, 3, 3] rfl rfl (tUnwrap D.A d.top hD.abs c.id _) rfl ?_))))))))
 rintro _ I1 _ hI1 ⟨_, B, rfl, hb, rfl, hB⟩
 refine jW ?_
 refine jC (j9 [1, 2] (hI1) rfl (jT 7 rfl (Val.moveT rfl) (jT 8 rfl (jq rfl rfl) (jT 9 rfl (jq rfl rfl) (jT 10 rfl (jq rfl rfl) (jT 11 rfl (jq rfl rfl) (jT 12 rfl (Val.assignI rfl) (jT 13 rfl (Val.assignI rfl) (jT 14 rfl (Val.assignI rfl) (jT 15 rfl (Val.assignI rfl) (j6 ?_)))))))))))
 rw [← hb]
 by_cases h2 : (Nd.unwrap d.top c.id).2.2.2.2 = 0
 case neg =>
  rw [if_pos h2]
  refine jA (jB (jS (ja rfl (jJ rfl rfl (jM (jF (jS (jm (Val.build0) ?_))))))))
  refine ja rfl (WL.stA 4 rfl rfl rfl rfl ?_)
  refine jf rfl (jM (jR (jU ?_)))
  refine jP [0, 0, 2, 2, 2, 2, 2] (jr2 rfl (jcL 4 rfl rfl rfl) (jtI rfl)) ?_
  rw [Nd.unwrap_err h2] at hB
  exact ⟨{ D with A := B }, _, rfl, Cm.z_rep _, rfl, rfl, ⟨hB, hD.rep.mono hI1, hD.segs, hD.dom, hD.lim⟩⟩
 rw [if_neg (fun e => e h2)]
 obtain ⟨r1, r2, r3⟩ := hD.abs.unwrap_small h2
 refine jA (jB (jS (ja rfl (jz rfl rfl (jM (jE (jV (jA (jB (j8 999 [1, 1, 1] rfl (jT 0 rfl (Val.moveP rfl) (jT 1 rfl (jr rfl) (jT 2 rfl (jn rfl) (jT 3 rfl (jp 0 rfl rfl rfl) (jT 4 rfl (jn rfl) (jT 5 rfl (jp 2 rfl rfl rfl) (jT 6 rfl (Val.lookup1v 1 hv rfl rfl rfl) ?_)))))))))))))))))
 refine j5 7 rfl (WL.alloc rfl (fun _ => ?_))
 rename_i g10
 refine jW ?_
 refine jC (j7 [1, 1, 1] rfl (j5 8 rfl (WL.stA 10 rfl rfl rfl rfl ?_)))
 refine jC (j7 [1, 1, 1] rfl (j6 (jA (jB (j8 999 [1, 2] rfl (jT 0 rfl (Val.moveP rfl) (jT 1 rfl (jr rfl) (jT 2 rfl (jn rfl) (jT 3 rfl (jp 0 rfl rfl rfl) (jT 4 rfl (jn rfl) (jT 5 rfl (jp 1 rfl rfl rfl) (j5 6 rfl (WL.delete 2 rfl rfl rfl ?_)))))))))))))
 refine WL.nSet ?_
 refine jC (j7 [1, 2] rfl (j6 (jK (jm (jn rfl) (jm (jp 3 rfl rfl rfl) (ja rfl (ja rfl (ja rfl (jm (jt 10 rfl rfl rfl) (jm (Val.build (cs := (Cm.cs { Cm.z with kind := 4, id := c.id, parent := (Nd.unwrap d.top c.id).2.1, index := (Nd.unwrap d.top c.id).2.2.1, count := (Nd.unwrap d.top c.id).2.2.2.1, atr := a } (.slice none 0 0) (.slice a1 a.sty.fill.stops.length c1) (.slice a2 a.sty.pen.stops.length c2) (.slice a3 a.sty.dash.length c3) (.slice a4 a.path.length c4))) rfl) ?_))))))))))
 refine WL.stA 4 rfl rfl rfl rfl ?_
 refine jf rfl (jM (jR ?_))
 exact jP [0, 0, 2, 2, 2, 2, 2] (jr2 rfl (jcL 4 rfl rfl rfl) (jtI rfl)) ⟨{ D with A := B, f := Sl.del D.f c.id, cnt := _ }, _, rfl, ⟨_, _, _, _, _, rfl, (⟨by decide, by decide⟩ : I64 4), hc.id, r1, r2, r3, i64z, i64z, LsAt.nil _ _, haa0.mono hI1, Sg.z_ok, Pt.z_ok⟩, rfl, rfl, ⟨hB, (hD.rep.mono hI1).down _, hD.segs, dom_unwrap hD.dom hD.abs.od (hD.abs.count_unwrap h2), lim_down hD.lim _⟩⟩
theorem dRemove (D : Dm) (d : Dr) (c : Cm) (e t u dd q : Value) (I : Mem) (hD : DAbs I D d) (hc : c.at_ I e t u dd q) (hs0 : 0 ≤ d.segs) (hs1 : d.segs ≤ 1048576) :
  Ctr Tryz.prog 67 [ptr D.b, .agg (c.cs e t u dd q).toArray] I D.hp (ApplyR (d.remove c) D) := by
 obtain ⟨x0, y0, x1, y1, x2, y2, x3, y3, x4, y4, rfl, rfl, rfl, rfl, rfl⟩ := hc.sl
 have hmv : d.remove c = if (Nd.remove d.top c.id).2.2.2.2 ≠ 0 then (d, Cm.z, (Nd.remove d.top c.id).2.2.2.2) else (⟨(Nd.remove d.top c.id).1, dropAll d.at_ (ents (fun i => (d.at_ i).getD Atr.z) (Nd.remove d.top c.id).2.1), d.segs - segsOf (ents (fun i => (d.at_ i).getD Atr.z) (Nd.remove d.top c.id).2.1)⟩, { Cm.z with kind := 1, parent := (Nd.remove d.top c.id).2.2.1, index := (Nd.remove d.top c.id).2.2.2.1, ents := ents (fun i => (d.at_ i).getD Atr.z) (Nd.remove d.top c.id).2.1 }, 0) := by
  rw [Dr.remove]; rfl
 rw [hmv]
 clear hmv
 refine Ctr.intro Tryz.func67 rfl rfl rfl fun E F => ?_
 refine jS (WL.boxA rfl rfl (fun _ => ?_))
 refine jW ?_
 refine WL.alloc rfl (fun _ => ?_)
 refine jW ?_
 refine jf rfl (jM (jB ?_))
 rename_i g3 g4
 refine WC.cutP (fun ρ' I' L' => ∃ (kv : Value) (B : Ar) (g6 : Nat), I.le I' ∧ B.b = D.A.b ∧ Abs B (Nd.remove d.top c.id).1 ∧ LsAt Nd.Rp I' (Nd.remove d.top c.id).2.1.kids kv ∧ I64 (Nd.remove d.top c.id).2.1.id ∧
  ρ' 0 = ptr D.b ∧ ρ' 3 = ptr g3 ∧ ρ' 4 = ptr g4 ∧ ρ' 6 = ptr g6 ∧ ρ' 7 = vi (Nd.remove d.top c.id).2.2.1 ∧ ρ' 8 = vi (Nd.remove d.top c.id).2.2.2.1 ∧ ρ' 9 = vi (Nd.remove d.top c.id).2.2.2.2 ∧
  L' = [sts B.hp, F, docBox D.b D.A.b D.mb D.segs, mp D.mb D.f D.cnt, box g3 59 (c.cs (.slice x0 c.ents.length y0) (.slice x1 c.atr.sty.fill.stops.length y1) (.slice x2 c.atr.sty.pen.stops.length y2) (.slice x3 c.atr.sty.dash.length y3) (.slice x4 c.atr.path.length y4)), box g4 59 (Cm.cs Cm.z (.slice none 0 0) (.slice none 0 0) (.slice none 0 0) (.slice none 0 0) (.slice none 0 0)), box g6 72 [vi (Nd.remove d.top c.id).2.1.id, .bool (Nd.remove d.top c.id).2.1.grp, kv]]) ?_ ?_
 ·skip
  refine j8 999 [1, 7] rfl (jT 0 rfl (Val.moveP rfl) (jT 1 rfl (jr rfl) (jT 2 rfl (jn rfl) (jT 3 rfl (jp 0 rfl rfl rfl) (jT 4 rfl (jn rfl) (jT 5 rfl (jp 1 rfl rfl rfl) ?_))))))
  refine jee 6 12 rfl rfl ?_ ?_
  ·refine WL.callP [3, 3, 3, 3, 3] rfl rfl (tRemove D.A d.top hD.abs c.id _) rfl ?_
   rintro _ I1 _ hI1 ⟨_, B, rfl, ⟨kv, rfl, hkv, hid⟩, hb, rfl, hB⟩
   obtain ⟨ka, kc, rfl⟩ := hkv.sl
   refine jW ?_
   refine jC (j9 [1, 2] (hI1) rfl (jT 7 rfl (Val.moveT rfl) (jT 8 rfl (Val.extractA rfl rfl) (jT 9 rfl (jq rfl rfl) (jT 10 rfl (jq rfl rfl) (jT 11 rfl (jq rfl rfl) (j5 12 rfl (WL.alloc rfl (fun _ => ?_)))))))))
   rename_i g6
   refine jW ?_
   refine jC (j9 [1, 2] (hI1) rfl (j5 13 rfl (WL.stA 10 rfl rfl rfl rfl ?_)))
   refine jC (j9 [1, 2] (hI1) rfl (jT 14 rfl (Val.assignI rfl) (jT 15 rfl (Val.assignI rfl) (jT 16 rfl (Val.assignI rfl) (j6 (WX.conv (fun w h => Sat.fold B.hp (h.sub [5, 5, 5, 5, 5, 0, 0, 0, 0, 0, 0] rfl)) ?_))))))
   refine WX.thenK (WK.meet ?_)
   exact ⟨_, B, g6, hI1, hb, hB, hkv, hid, rfl, rfl, rfl, rfl, rfl, rfl, rfl, rfl⟩
  ·skip
   refine WL.alloc rfl (fun _ => ?_)
   rename_i g6
   refine jW ?_
   refine jC (j7 [1, 7] rfl (j5 6 rfl (WL.callP [3, 3, 3, 3, 3] rfl rfl (tRemove D.A d.top hD.abs c.id _) rfl ?_)))
   rintro _ I1 _ hI1 ⟨_, B, rfl, ⟨kv, rfl, hkv, hid⟩, hb, rfl, hB⟩
   obtain ⟨ka, kc, rfl⟩ := hkv.sl
   refine jW ?_
   refine jC (j9 [1, 2] (hI1) rfl (jT 7 rfl (Val.moveT rfl) (jT 8 rfl (Val.extractA rfl rfl) (jT 9 rfl (jq rfl rfl) (jT 10 rfl (jq rfl rfl) (jT 11 rfl (jq rfl rfl) (j5 13 rfl (WL.stA 5 rfl rfl rfl rfl ?_))))))))
   refine jC (j9 [1, 2] (hI1) rfl (jT 14 rfl (Val.assignI rfl) (jT 15 rfl (Val.assignI rfl) (jT 16 rfl (Val.assignI rfl) (j6 (WX.conv (fun w h => Sat.fold B.hp (h.sub [6, 6, 6, 6, 6, 0, 0, 0, 0, 0, 0] rfl)) ?_))))))
   refine WX.thenK (WK.meet ?_)
   exact ⟨_, B, g6, hI1, hb, hB, hkv, hid, rfl, rfl, rfl, rfl, rfl, rfl, rfl, rfl⟩
 rintro ρ' I1 L' ⟨kv, B, g6, hI1, hb, hB, hkv, hid, r0, r3, r4, r6, r7, r8, r9, rfl⟩
 refine ju7 r9 r8 r7 r6 r4 r3 r0 ?_
 rw [← hb]
 by_cases h2 : (Nd.remove d.top c.id).2.2.2.2 = 0
 case neg =>
  rw [if_pos h2]
  have hrt : (Nd.remove d.top c.id).1 = d.top := by
   rcases hD.abs.rem c.id with ⟨_, h⟩ | ⟨p, k, hk, _, _, _, _, _, e, _⟩
   ·exact h
   ·rw [e] at h2; exact absurd rfl h2
  refine jB (jS (ja rfl (jJ rfl rfl (jM (jF (jS (jm (Val.build0) ?_)))))))
  refine ja rfl (WL.stA 5 rfl rfl rfl rfl ?_)
  refine jf rfl (jM (jR (jU (WX.conv (fun w h => (Sat.unfold h).sub [5, 5, 5, 0, 0, 0, 0, 0, 1] rfl) ?_))))
  refine jP [0, 0, 0, 0, 0, 0, 0] (jr2 rfl (jcL 8 rfl rfl rfl) (jtI rfl)) ?_
  rw [hrt] at hB
  exact ⟨{ D with A := B }, _, rfl, Cm.z_rep _, rfl, rfl, ⟨hB, hD.rep.mono hI1, hD.segs, hD.dom, hD.lim⟩⟩
 rw [if_neg (fun e => e h2)]
 obtain ⟨s1, s2, s3, s4⟩ := hD.abs.rem_small h2
 obtain ⟨o1, o2, o3, o4, o5⟩ := hD.abs.rem_nodup h2
 have hcnt := hD.abs.count_rem h2
 generalize (Nd.remove d.top c.id).1 = top' at *
 generalize (Nd.remove d.top c.id).2.1 = nd at *
 generalize (Nd.remove d.top c.id).2.2.1 = rp at *
 generalize (Nd.remove d.top c.id).2.2.2.1 = ri at *
 have hkv0 := hkv
 obtain ⟨ka, kc, rfl⟩ := hkv.sl
 refine jB (jS (ja rfl (jz rfl rfl (jM (jE (jV (jK (jd rfl (jm (jt 6 rfl rfl rfl) (WL.callR [2, 2] rfl rfl rfl (entries_ctr d.at_ D.f D.b B.b D.mb D.cnt D.segs hD.lim _ nd (Nat.le_refl _) _ _ (by omega) hkv0 hid (hD.rep.mono hI1)) rfl ?_))))))))))
 rintro v I2 hI2 hv
 have hlen := ents_len (fun i => (d.at_ i).getD Atr.z) nd
 have hids := ents_ids (fun i => (d.at_ i).getD Atr.z) nd
 have hlm : ∀ x ∈ ents (fun i => (d.at_ i).getD Atr.z) nd, x.atr.path.length ≤ 1000000 := fun x hx => by
  rw [ents_atr hx]
  show ((d.at_ x.id).getD Atr.z).path.length ≤ _
  cases h : d.at_ x.id with
  | none => exact Nat.zero_le _
  | some a => exact (hD.lim _ _ h).1
 have hnn := segsOf_nonneg (ents (fun i => (d.at_ i).getD Atr.z) nd)
 generalize ents (fun i => (d.at_ i).getD Atr.z) nd = l at *
 have hv0 := hv
 obtain ⟨la, lc, rfl⟩ := hv.sl
 have hds := hD.segs
 rw [hds]
 refine jh rfl (jM (jB (jS (jc rfl (jm (jo rfl) (ja rfl (jM (WC.block ?_))))))))
 have hJ2 := hI1.trans hI2
 refine WC.loop (fun n ρ' I' L' => ∃ (k : Nat) (f' : Int → Option Value) (cnt' : Nat), n = l.length - k ∧ k ≤ l.length ∧ I' = I2 ∧ ρ' 0 = ptr D.b ∧ ρ' 4 = ptr g4 ∧ ρ' 7 = vi rp ∧ ρ' 8 = vi ri ∧ ρ' 10 = .slice la l.length lc ∧ ρ' 32 = .slice la l.length lc ∧ ρ' 33 = vi l.length ∧ ρ' 34 = vi k ∧
   L' = [sts B.hp, F, docBox D.b B.b D.mb (d.segs - segsOf (l.take k)), mp D.mb f' cnt', box g3 59 (c.cs (.slice x0 c.ents.length y0) (.slice x1 c.atr.sty.fill.stops.length y1) (.slice x2 c.atr.sty.pen.stops.length y2) (.slice x3 c.atr.sty.dash.length y3) (.slice x4 c.atr.path.length y4)), box g4 59 (Cm.cs Cm.z (.slice none 0 0) (.slice none 0 0) (.slice none 0 0) (.slice none 0 0) (.slice none 0 0)), box g6 72 [vi nd.id, .bool nd.grp, .slice ka nd.kids.length kc]] ∧ AtRep I2 (dropAll d.at_ (l.take k)) f')
  l.length ⟨0, D.f, D.cnt, rfl, by omega, rfl, rfl, rfl, rfl, rfl, rfl, rfl, rfl, rfl, by rw [List.take_zero]; show _ = [_, _, docBox _ _ _ (d.segs - 0), _, _, _, _]; rw [Int.sub_zero], hD.rep.mono hJ2⟩ ?_
 rintro n ρ' I3 L' ⟨k, f', cnt', rfl, hk, rfl, r0, r4, r7, r8, r10, r32, r33, r34, rfl, hrep⟩
 refine ju8 r34 r33 r32 r10 r8 r7 r4 r0 ?_
 by_cases hkn : k < l.length
 ·obtain ⟨b, off, cap', cs, he, ⟨t1, t2, t3, t4, rfl, hi⟩, hA⟩ := hv0.get k hkn
  cases he
  have hds2 := dropAll_snoc (l.take k) d.at_ l[k]
  have hss := segsOf_snoc (l.take k) l[k]
  rw [← List.take_succ_eq_append_getElem hkn] at hds2 hss
  have hb1 := segsOf_le (m := 1000000) (l := l.take k) fun x hx => hlm x (List.mem_of_mem_take hx)
  have hb0 := segsOf_nonneg (l.take k)
  rw [List.length_take, Nat.min_eq_left (by omega)] at hb1
  have hlk := hlm _ (List.getElem_mem hkn)
  have hlll : (l.length : Int) ≤ 100000 := by omega
  obtain ⟨b1, d1, b2, d2, b3, d3, b4, d4, rfl, rfl, rfl, rfl⟩ := hi.sl
  generalize l[k] = x at *
  refine jS (jy rfl rfl (jM (jB (jF (jV (jA (jB (WC.block (jS (jm (jZ rfl rfl) (jm (Val.loadI rfl (by assumption) rfl) ?_)))))))))))
  refine WL.alloc rfl (fun _ => ?_)
  refine jW ?_
  refine WL.stA 7 rfl rfl rfl rfl ?_
  refine jM (jB (j8 11 [2, 6] rfl (jT 0 rfl (Val.moveP rfl) (jT 1 rfl (jr rfl) (jT 2 rfl (jn rfl) (jT 3 rfl (jp 0 rfl rfl rfl) (jT 4 rfl (jn rfl) (jT 5 rfl (jn rfl) (jT 6 rfl (jp 1 rfl rfl rfl) (jT 7 rfl (jo rfl) (jT 8 rfl (Val.sub rfl rfl (wrap_i64 (by omega) (by omega))) ?_)))))))))))
  refine j5 9 rfl (jm (jr rfl) (jC (j7 [2, 6] rfl (j5 10 rfl (jm (jn rfl) (jC (j7 [2, 6] rfl (j5 11 rfl (WL.stI 2 rfl rfl rfl rfl ?_)))))))))
  refine jC (WK.anyLast (WA.done (by kernel_rfl) (jA (j8 999 [2, 6] rfl (jT 0 rfl (Val.moveP rfl) (jT 1 rfl (jr rfl) (jT 2 rfl (jn rfl) (jT 3 rfl (jp 0 rfl rfl rfl) (jT 4 rfl (jn rfl) (jT 5 rfl (jp 1 rfl rfl rfl) (j5 6 rfl (WL.delete 3 rfl rfl rfl ?_))))))))))))
  refine WL.nSet ?_
  refine jC (j7 [2, 6] rfl (j6 (WX.inNormal (jA (jD (jX rfl rfl (ja rfl (jC ?_))))))))
  rw [show d.segs - segsOf (l.take k) - (x.atr.path.length : Int) = d.segs - segsOf (l.take (k + 1)) by omega]
  refine WX.conv (fun w h => h.sub [0, 0, 0, 0, 0, 0, 0] rfl) ?_
  refine WX.thenK (WK.round (l.length - (k + 1)) (by omega) ⟨k + 1, _, _, rfl, by omega, rfl, rfl, rfl, rfl, rfl, rfl, rfl, rfl, rfl, rfl, ?_⟩)
  rw [hds2]
  exact hrep.down _
 ·have hkl : k = l.length := by omega
  subst hkl
  rw [List.take_length] at hrep ⊢
  refine jS (jx rfl rfl (jM (jB (jE (WC.exit (WX.thenExit (WX.thenExit (WX.inHit (jK (ja rfl (ja rfl (jc rfl (jm (Val.build (cs := (Cm.cs { Cm.z with kind := 1, parent := rp, index := ri, ents := l } (.slice la l.length lc) (.slice none 0 0) (.slice none 0 0) (.slice none 0 0) (.slice none 0 0))) rfl) ?_)))))))))))))
  refine WL.stA 5 rfl rfl rfl rfl ?_
  refine jf rfl (jM (jR (WX.conv (fun w h => (Sat.unfold h).sub [5, 5, 5, 0, 0, 0, 0, 0, 1] rfl) ?_)))
  exact jP [0, 0, 0, 0, 0, 0, 0] (jr2 rfl (jcL 8 rfl rfl rfl) (jtI rfl)) ⟨{ D with A := B, f := f', cnt := cnt', segs := d.segs - segsOf l }, _, rfl, ⟨_, _, _, _, _, rfl, (⟨by decide, by decide⟩ : I64 1), i64z, s1, s2, i64z, i64z, i64z, hv0, Atr.z_at _, Sg.z_ok, Pt.z_ok⟩, rfl, rfl, ⟨hB, hrep, rfl, dom_remove hD.dom hD.abs.od hids hcnt, fun i a h => hD.lim _ _ (dropAll_of _ _ _ _ h)⟩⟩
theorem dApply (D : Dm) (d : Dr) (c : Cm) (e t u dd q : Value) (I : Mem) (hN : NeedAt I) (hD : DAbs I D d) (hc : c.at_ I e t u dd q) (hle : c.ents.length ≤ 100000) (hs0 : 0 ≤ d.segs) (hs1 : d.segs + segsOf c.ents ≤ 1048576) :
  Ctr Tryz.prog 24 [ptr D.b, .agg (c.cs e t u dd q).toArray] I D.hp (ApplyR (d.apply c) D) := by
 have hc0 := hc
 have hsg := segsOf_nonneg c.ents
 obtain ⟨a0, c0, a1, c1, a2, c2, a3, c3, a4, c4, rfl, rfl, rfl, rfl, rfl⟩ := hc.sl
 refine Ctr.intro Tryz.func24 rfl rfl rfl fun E F => ?_
 by_cases k1 : c.kind = 1
 ·rw [show d.apply c = d.add c by rw [Dr.apply, if_pos k1]]
  refine jS (WL.boxA rfl rfl (fun _ => ?_))
  refine jW ?_
  refine WL.alloc rfl (fun _ => ?_)
  refine jW ?_
  refine jf rfl (jM (jB (jS (jm (jn rfl) (jm (jp 8 rfl rfl rfl) (jM (WC.block (jS (jw rfl rfl (jg rfl (jM (jF (jS (jd rfl (jm (jt 8 rfl rfl rfl) (WL.callP [1, 1, 1, 1, 1, 1, 1] rfl rfl (dAdd D d c _ _ _ _ _ _ hN hD hc0 hle hs0 hs1) rfl ?_))))))))))))))))
  rintro _ I1 _ hI1 ⟨D', bcs, rfl, ⟨e', t', u', d', q', rfl, hbk⟩, hb, rfl, hD'⟩
  have hbk0 := hbk
  obtain ⟨_, _, _, _, _, _, _, _, _, _, rfl, rfl, rfl, rfl, rfl⟩ := hbk.sl
  refine jW ?_
  refine jm (Val.extractA rfl rfl) (jm (jq rfl rfl) (WL.stA 2 rfl rfl rfl rfl ?_))
  refine jf rfl (jM (jR (WX.inRet (jU ?_))))
  exact jP [2, 2, 2, 2, 2, 2, 2] (jr2 rfl (jcL 2 rfl rfl rfl) (jtI rfl)) ⟨D', _, rfl, ⟨_, _, _, _, _, rfl, hbk0⟩, hb, rfl, hD'⟩
 by_cases k2 : c.kind = 2
 ·rw [show d.apply c = d.remove c by rw [Dr.apply, if_neg k1, if_pos k2]]
  refine jS (WL.boxA rfl rfl (fun _ => ?_))
  refine jW ?_
  refine WL.alloc rfl (fun _ => ?_)
  refine jW ?_
  refine jf rfl (jM (jB (jS (jm (jn rfl) (jm (jp 8 rfl rfl rfl) (jM (WC.block (jCf rfl rfl (jS (jw rfl rfl (jg rfl (jM (jF (jS (jd rfl (jm (jt 8 rfl rfl rfl) (WL.callP [1, 1, 1, 1, 1, 1, 1] rfl rfl (dRemove D d c _ _ _ _ _ _ hD hc0 hs0 (by omega)) rfl ?_)))))))))))))))))
  rintro _ I1 _ hI1 ⟨D', bcs, rfl, ⟨e', t', u', d', q', rfl, hbk⟩, hb, rfl, hD'⟩
  have hbk0 := hbk
  obtain ⟨_, _, _, _, _, _, _, _, _, _, rfl, rfl, rfl, rfl, rfl⟩ := hbk.sl
  refine jW ?_
  refine jm (Val.extractA rfl rfl) (jm (jq rfl rfl) (WL.stA 2 rfl rfl rfl rfl ?_))
  refine jf rfl (jM (jR (WX.inRet (jU ?_))))
  exact jP [2, 2, 2, 2, 2, 2, 2] (jr2 rfl (jcL 2 rfl rfl rfl) (jtI rfl)) ⟨D', _, rfl, ⟨_, _, _, _, _, rfl, hbk0⟩, hb, rfl, hD'⟩
 by_cases k3 : c.kind = 3
 ·rw [show d.apply c = d.move c by rw [Dr.apply, if_neg k1, if_neg k2, if_pos k3]]
  refine jS (WL.boxA rfl rfl (fun _ => ?_))
  refine jW ?_
  refine WL.alloc rfl (fun _ => ?_)
  refine jW ?_
  refine jf rfl (jM (jB (jS (jm (jn rfl) (jm (jp 8 rfl rfl rfl) (jM (WC.block (jCf rfl rfl (jCf rfl rfl (jS (jw rfl rfl (jg rfl (jM (jF (jS (jd rfl (jm (jt 8 rfl rfl rfl) (WL.callP [1, 1, 1, 1, 1, 1, 1] rfl rfl (dMove D d c _ _ _ _ _ _ hD hc0) rfl ?_))))))))))))))))))
  rintro _ I1 _ hI1 ⟨D', bcs, rfl, ⟨e', t', u', d', q', rfl, hbk⟩, hb, rfl, hD'⟩
  have hbk0 := hbk
  obtain ⟨_, _, _, _, _, _, _, _, _, _, rfl, rfl, rfl, rfl, rfl⟩ := hbk.sl
  refine jW ?_
  refine jm (Val.extractA rfl rfl) (jm (jq rfl rfl) (WL.stA 2 rfl rfl rfl rfl ?_))
  refine jf rfl (jM (jR (WX.inRet (jU ?_))))
  exact jP [2, 2, 2, 2, 2, 2, 2] (jr2 rfl (jcL 2 rfl rfl rfl) (jtI rfl)) ⟨D', _, rfl, ⟨_, _, _, _, _, rfl, hbk0⟩, hb, rfl, hD'⟩
 by_cases k4 : c.kind = 4
 ·rw [show d.apply c = d.wrap c by rw [Dr.apply, if_neg k1, if_neg k2, if_neg k3, if_pos k4]]
  refine jS (WL.boxA rfl rfl (fun _ => ?_))
  refine jW ?_
  refine WL.alloc rfl (fun _ => ?_)
  refine jW ?_
  refine jf rfl (jM (jB (jS (jm (jn rfl) (jm (jp 8 rfl rfl rfl) (jM (WC.block (jCf rfl rfl (jCf rfl rfl (jCf rfl rfl (jS (jw rfl rfl (jg rfl (jM (jF (jS (jd rfl (jm (jt 8 rfl rfl rfl) (WL.callP [1, 1, 1, 1, 1, 1, 1] rfl rfl (dWrap D d c _ _ _ _ _ _ hN hD hc0) rfl ?_)))))))))))))))))))
  rintro _ I1 _ hI1 ⟨D', bcs, rfl, ⟨e', t', u', d', q', rfl, hbk⟩, hb, rfl, hD'⟩
  have hbk0 := hbk
  obtain ⟨_, _, _, _, _, _, _, _, _, _, rfl, rfl, rfl, rfl, rfl⟩ := hbk.sl
  refine jW ?_
  refine jm (Val.extractA rfl rfl) (jm (jq rfl rfl) (WL.stA 2 rfl rfl rfl rfl ?_))
  refine jf rfl (jM (jR (WX.inRet (jU ?_))))
  exact jP [2, 2, 2, 2, 2, 2, 2] (jr2 rfl (jcL 2 rfl rfl rfl) (jtI rfl)) ⟨D', _, rfl, ⟨_, _, _, _, _, rfl, hbk0⟩, hb, rfl, hD'⟩
 by_cases k5 : c.kind = 5
 ·rw [show d.apply c = d.unwrap c by rw [Dr.apply, if_neg k1, if_neg k2, if_neg k3, if_neg k4, if_pos k5]]
  refine jS (WL.boxA rfl rfl (fun _ => ?_))
  refine jW ?_
  refine WL.alloc rfl (fun _ => ?_)
  refine jW ?_
  refine jf rfl (jM (jB (jS (jm (jn rfl) (jm (jp 8 rfl rfl rfl) (jM (WC.block (jCf rfl rfl (jCf rfl rfl (jCf rfl rfl (jCf rfl rfl (jS (jw rfl rfl (jg rfl (jM (jF (jS (jd rfl (jm (jt 8 rfl rfl rfl) (WL.callP [1, 1, 1, 1, 1, 1, 1] rfl rfl (dUnwrap D d c _ _ _ _ _ _ hD hc0) rfl ?_))))))))))))))))))))
  rintro _ I1 _ hI1 ⟨D', bcs, rfl, ⟨e', t', u', d', q', rfl, hbk⟩, hb, rfl, hD'⟩
  have hbk0 := hbk
  obtain ⟨_, _, _, _, _, _, _, _, _, _, rfl, rfl, rfl, rfl, rfl⟩ := hbk.sl
  refine jW ?_
  refine jm (Val.extractA rfl rfl) (jm (jq rfl rfl) (WL.stA 2 rfl rfl rfl rfl ?_))
  refine jf rfl (jM (jR (WX.inRet (jU ?_))))
  exact jP [2, 2, 2, 2, 2, 2, 2] (jr2 rfl (jcL 2 rfl rfl rfl) (jtI rfl)) ⟨D', _, rfl, ⟨_, _, _, _, _, rfl, hbk0⟩, hb, rfl, hD'⟩
 by_cases k6 : 6 ≤ c.kind ∧ c.kind ≤ 12
 ·rw [show d.apply c = d.set c by rw [Dr.apply, if_neg k1, if_neg k2, if_neg k3, if_neg k4, if_neg k5, if_pos k6]]
  obtain ⟨k6, k12⟩ := k6
  have hk : c.kind = 6 ∨ c.kind = 7 ∨ c.kind = 8 ∨ c.kind = 9 ∨ c.kind = 10 ∨ c.kind = 11 ∨ c.kind = 12 := by omega
  rcases hk with hk | hk | hk | hk | hk | hk | hk
  ·skip
   refine jS (WL.boxA rfl rfl (fun _ => ?_))
   refine jW ?_
   refine WL.alloc rfl (fun _ => ?_)
   refine jW ?_
   refine jf rfl (jM (jB (jS (jm (jn rfl) (jm (jp 8 rfl rfl rfl) (jM (WC.block (jCf rfl rfl (jCf rfl rfl (jCf rfl rfl (jCf rfl rfl (jCf rfl rfl (jB (jS (jw rfl rfl (jg rfl (jM (jF (jV (jA (jF (jS (jd rfl (jm (jt 8 rfl rfl rfl) (WL.callP [1, 1, 1, 1, 1, 1, 1] rfl rfl (dSet D d c _ _ _ _ _ _ hN hD hc0 (by omega) (by omega) hs0 (by omega)) rfl ?_)))))))))))))))))))))))))
   rintro _ I1 _ hI1 ⟨D', bcs, rfl, ⟨e', t', u', d', q', rfl, hbk⟩, hb, rfl, hD'⟩
   have hbk0 := hbk
   obtain ⟨_, _, _, _, _, _, _, _, _, _, rfl, rfl, rfl, rfl, rfl⟩ := hbk.sl
   refine jW ?_
   refine jm (Val.extractA rfl rfl) (jm (jq rfl rfl) (WL.stA 2 rfl rfl rfl rfl ?_))
   refine jf rfl (jM (jR (WX.inRet (jU ?_))))
   exact jP [2, 2, 2, 2, 2, 2, 2] (jr2 rfl (jcL 2 rfl rfl rfl) (jtI rfl)) ⟨D', _, rfl, ⟨_, _, _, _, _, rfl, hbk0⟩, hb, rfl, hD'⟩
  ·skip
   refine jS (WL.boxA rfl rfl (fun _ => ?_))
   refine jW ?_
   refine WL.alloc rfl (fun _ => ?_)
   refine jW ?_
   refine jf rfl (jM (jB (jS (jm (jn rfl) (jm (jp 8 rfl rfl rfl) (jM (WC.block (jCf rfl rfl (jCf rfl rfl (jCf rfl rfl (jCf rfl rfl (jCf rfl rfl (jB (jCf rfl rfl (jS (jw rfl rfl (jg rfl (jM (jF (jV (jA (jF (jS (jd rfl (jm (jt 8 rfl rfl rfl) (WL.callP [1, 1, 1, 1, 1, 1, 1] rfl rfl (dSet D d c _ _ _ _ _ _ hN hD hc0 (by omega) (by omega) hs0 (by omega)) rfl ?_))))))))))))))))))))))))))
   rintro _ I1 _ hI1 ⟨D', bcs, rfl, ⟨e', t', u', d', q', rfl, hbk⟩, hb, rfl, hD'⟩
   have hbk0 := hbk
   obtain ⟨_, _, _, _, _, _, _, _, _, _, rfl, rfl, rfl, rfl, rfl⟩ := hbk.sl
   refine jW ?_
   refine jm (Val.extractA rfl rfl) (jm (jq rfl rfl) (WL.stA 2 rfl rfl rfl rfl ?_))
   refine jf rfl (jM (jR (WX.inRet (jU ?_))))
   exact jP [2, 2, 2, 2, 2, 2, 2] (jr2 rfl (jcL 2 rfl rfl rfl) (jtI rfl)) ⟨D', _, rfl, ⟨_, _, _, _, _, rfl, hbk0⟩, hb, rfl, hD'⟩
  ·skip
   refine jS (WL.boxA rfl rfl (fun _ => ?_))
   refine jW ?_
   refine WL.alloc rfl (fun _ => ?_)
   refine jW ?_
   refine jf rfl (jM (jB (jS (jm (jn rfl) (jm (jp 8 rfl rfl rfl) (jM (WC.block (jCf rfl rfl (jCf rfl rfl (jCf rfl rfl (jCf rfl rfl (jCf rfl rfl (jB (jCf rfl rfl (jCf rfl rfl (jS (jw rfl rfl (jg rfl (jM (jF (jV (jA (jF (jS (jd rfl (jm (jt 8 rfl rfl rfl) (WL.callP [1, 1, 1, 1, 1, 1, 1] rfl rfl (dSet D d c _ _ _ _ _ _ hN hD hc0 (by omega) (by omega) hs0 (by omega)) rfl ?_)))))))))))))))))))))))))))
   rintro _ I1 _ hI1 ⟨D', bcs, rfl, ⟨e', t', u', d', q', rfl, hbk⟩, hb, rfl, hD'⟩
   have hbk0 := hbk
   obtain ⟨_, _, _, _, _, _, _, _, _, _, rfl, rfl, rfl, rfl, rfl⟩ := hbk.sl
   refine jW ?_
   refine jm (Val.extractA rfl rfl) (jm (jq rfl rfl) (WL.stA 2 rfl rfl rfl rfl ?_))
   refine jf rfl (jM (jR (WX.inRet (jU ?_))))
   exact jP [2, 2, 2, 2, 2, 2, 2] (jr2 rfl (jcL 2 rfl rfl rfl) (jtI rfl)) ⟨D', _, rfl, ⟨_, _, _, _, _, rfl, hbk0⟩, hb, rfl, hD'⟩
  ·skip
   refine jS (WL.boxA rfl rfl (fun _ => ?_))
   refine jW ?_
   refine WL.alloc rfl (fun _ => ?_)
   refine jW ?_
   refine jf rfl (jM (jB (jS (jm (jn rfl) (jm (jp 8 rfl rfl rfl) (jM (WC.block (jCf rfl rfl (jCf rfl rfl (jCf rfl rfl (jCf rfl rfl (jCf rfl rfl (jB (jCf rfl rfl (jCf rfl rfl (jCf rfl rfl (jS (jw rfl rfl (jg rfl (jM (jF (jV (jA (jF (jS (jd rfl (jm (jt 8 rfl rfl rfl) (WL.callP [1, 1, 1, 1, 1, 1, 1] rfl rfl (dSet D d c _ _ _ _ _ _ hN hD hc0 (by omega) (by omega) hs0 (by omega)) rfl ?_))))))))))))))))))))))))))))
   rintro _ I1 _ hI1 ⟨D', bcs, rfl, ⟨e', t', u', d', q', rfl, hbk⟩, hb, rfl, hD'⟩
   have hbk0 := hbk
   obtain ⟨_, _, _, _, _, _, _, _, _, _, rfl, rfl, rfl, rfl, rfl⟩ := hbk.sl
   refine jW ?_
   refine jm (Val.extractA rfl rfl) (jm (jq rfl rfl) (WL.stA 2 rfl rfl rfl rfl ?_))
   refine jf rfl (jM (jR (WX.inRet (jU ?_))))
   exact jP [2, 2, 2, 2, 2, 2, 2] (jr2 rfl (jcL 2 rfl rfl rfl) (jtI rfl)) ⟨D', _, rfl, ⟨_, _, _, _, _, rfl, hbk0⟩, hb, rfl, hD'⟩
  ·skip
   refine jS (WL.boxA rfl rfl (fun _ => ?_))
   refine jW ?_
   refine WL.alloc rfl (fun _ => ?_)
   refine jW ?_
   refine jf rfl (jM (jB (jS (jm (jn rfl) (jm (jp 8 rfl rfl rfl) (jM (WC.block (jCf rfl rfl (jCf rfl rfl (jCf rfl rfl (jCf rfl rfl (jCf rfl rfl (jB (jCf rfl rfl (jCf rfl rfl (jCf rfl rfl (jCf rfl rfl (jS (jw rfl rfl (jg rfl (jM (jF (jV (jA (jF (jS (jd rfl (jm (jt 8 rfl rfl rfl) (WL.callP [1, 1, 1, 1, 1, 1, 1] rfl rfl (dSet D d c _ _ _ _ _ _ hN hD hc0 (by omega) (by omega) hs0 (by omega)) rfl ?_)))))))))))))))))))))))))))))
   rintro _ I1 _ hI1 ⟨D', bcs, rfl, ⟨e', t', u', d', q', rfl, hbk⟩, hb, rfl, hD'⟩
   have hbk0 := hbk
   obtain ⟨_, _, _, _, _, _, _, _, _, _, rfl, rfl, rfl, rfl, rfl⟩ := hbk.sl
   refine jW ?_
   refine jm (Val.extractA rfl rfl) (jm (jq rfl rfl) (WL.stA 2 rfl rfl rfl rfl ?_))
   refine jf rfl (jM (jR (WX.inRet (jU ?_))))
   exact jP [2, 2, 2, 2, 2, 2, 2] (jr2 rfl (jcL 2 rfl rfl rfl) (jtI rfl)) ⟨D', _, rfl, ⟨_, _, _, _, _, rfl, hbk0⟩, hb, rfl, hD'⟩
  ·skip
   refine jS (WL.boxA rfl rfl (fun _ => ?_))
   refine jW ?_
   refine WL.alloc rfl (fun _ => ?_)
   refine jW ?_
   refine jf rfl (jM (jB (jS (jm (jn rfl) (jm (jp 8 rfl rfl rfl) (jM (WC.block (jCf rfl rfl (jCf rfl rfl (jCf rfl rfl (jCf rfl rfl (jCf rfl rfl (jB (jCf rfl rfl (jCf rfl rfl (jCf rfl rfl (jCf rfl rfl (jCf rfl rfl (jS (jw rfl rfl (jg rfl (jM (jF (jV (jA (jF (jS (jd rfl (jm (jt 8 rfl rfl rfl) (WL.callP [1, 1, 1, 1, 1, 1, 1] rfl rfl (dSet D d c _ _ _ _ _ _ hN hD hc0 (by omega) (by omega) hs0 (by omega)) rfl ?_))))))))))))))))))))))))))))))
   rintro _ I1 _ hI1 ⟨D', bcs, rfl, ⟨e', t', u', d', q', rfl, hbk⟩, hb, rfl, hD'⟩
   have hbk0 := hbk
   obtain ⟨_, _, _, _, _, _, _, _, _, _, rfl, rfl, rfl, rfl, rfl⟩ := hbk.sl
   refine jW ?_
   refine jm (Val.extractA rfl rfl) (jm (jq rfl rfl) (WL.stA 2 rfl rfl rfl rfl ?_))
   refine jf rfl (jM (jR (WX.inRet (jU ?_))))
   exact jP [2, 2, 2, 2, 2, 2, 2] (jr2 rfl (jcL 2 rfl rfl rfl) (jtI rfl)) ⟨D', _, rfl, ⟨_, _, _, _, _, rfl, hbk0⟩, hb, rfl, hD'⟩
  ·skip
   refine jS (WL.boxA rfl rfl (fun _ => ?_))
   refine jW ?_
   refine WL.alloc rfl (fun _ => ?_)
   refine jW ?_
   refine jf rfl (jM (jB (jS (jm (jn rfl) (jm (jp 8 rfl rfl rfl) (jM (WC.block (jCf rfl rfl (jCf rfl rfl (jCf rfl rfl (jCf rfl rfl (jCf rfl rfl (jB (jCf rfl rfl (jCf rfl rfl (jCf rfl rfl (jCf rfl rfl (jCf rfl rfl (jCf rfl rfl (jD (jw rfl rfl (jg rfl (jM (jF (jS (jd rfl (jm (jt 8 rfl rfl rfl) (WL.callP [1, 1, 1, 1, 1, 1, 1] rfl rfl (dSet D d c _ _ _ _ _ _ hN hD hc0 (by omega) (by omega) hs0 (by omega)) rfl ?_))))))))))))))))))))))))))))
   rintro _ I1 _ hI1 ⟨D', bcs, rfl, ⟨e', t', u', d', q', rfl, hbk⟩, hb, rfl, hD'⟩
   have hbk0 := hbk
   obtain ⟨_, _, _, _, _, _, _, _, _, _, rfl, rfl, rfl, rfl, rfl⟩ := hbk.sl
   refine jW ?_
   refine jm (Val.extractA rfl rfl) (jm (jq rfl rfl) (WL.stA 2 rfl rfl rfl rfl ?_))
   refine jf rfl (jM (jR (WX.inRet (jU ?_))))
   exact jP [2, 2, 2, 2, 2, 2, 2] (jr2 rfl (jcL 2 rfl rfl rfl) (jtI rfl)) ⟨D', _, rfl, ⟨_, _, _, _, _, rfl, hbk0⟩, hb, rfl, hD'⟩
 ·rw [show d.apply c = (d, Cm.z, 33) by rw [Dr.apply, if_neg k1, if_neg k2, if_neg k3, if_neg k4, if_neg k5, if_neg k6]]
  have hk : c.kind < 1 ∨ 12 < c.kind := by omega
  rcases hk with hk | hk
  ·skip
   refine jS (WL.boxA rfl rfl (fun _ => ?_))
   refine jW ?_
   refine WL.alloc rfl (fun _ => ?_)
   refine jW ?_
   refine jf rfl (jM (jB (jS (jm (jn rfl) (jm (jp 8 rfl rfl rfl) (jM (WC.block (jCf rfl rfl (jCf rfl rfl (jCf rfl rfl (jCf rfl rfl (jCf rfl rfl (jB (jCf rfl rfl (jCf rfl rfl (jCf rfl rfl (jCf rfl rfl (jCf rfl rfl (jCf rfl rfl (jD (jv rfl rfl (jg rfl (jM (jE (jV (WX.inNormal (jK (jm (Val.build0) ?_))))))))))))))))))))))))))))
   refine WL.stA 9 rfl rfl rfl rfl ?_
   refine jf rfl (jM (jR ?_))
   exact jP [0, 0, 0, 0, 0, 0, 0] (jr2 rfl (jcL 9 rfl rfl rfl) (jtI rfl)) ⟨D, _, rfl, Cm.z_rep _, rfl, rfl, hD⟩
  ·skip
   refine jS (WL.boxA rfl rfl (fun _ => ?_))
   refine jW ?_
   refine WL.alloc rfl (fun _ => ?_)
   refine jW ?_
   refine jf rfl (jM (jB (jS (jm (jn rfl) (jm (jp 8 rfl rfl rfl) (jM (WC.block (jCf rfl rfl (jCf rfl rfl (jCf rfl rfl (jCf rfl rfl (jCf rfl rfl (jB (jCf rfl rfl (jCf rfl rfl (jCf rfl rfl (jCf rfl rfl (jCf rfl rfl (jCf rfl rfl (jD (jv rfl rfl (jg rfl (jM (jE (jV (WX.inNormal (jK (jm (Val.build0) ?_))))))))))))))))))))))))))))
   refine WL.stA 9 rfl rfl rfl rfl ?_
   refine jf rfl (jM (jR ?_))
   exact jP [0, 0, 0, 0, 0, 0, 0] (jr2 rfl (jcL 9 rfl rfl rfl) (jtI rfl)) ⟨D, _, rfl, Cm.z_rep _, rfl, rfl, hD⟩
end Go.Proofs.YtggcpoleklcmkaaGreatDoor

namespace Go.Dc
open Go.Sl Go.Ls Go.Tr
def Cm.small (c : Cm) : Prop := c.ents.length ≤ 40 ∧ c.atr.small ∧ ∀ x ∈ c.ents, x.atr.small
end Go.Dc
namespace Go.Proofs.YtggcpoleklcmkaaGreatDoor
open Go.Sl Go.Ls Go.Tr Go.Dc
end Go.Proofs.YtggcpoleklcmkaaGreatDoor

namespace Go.Dc
open Go.Sl Go.Ls Go.Tr
end Go.Dc
namespace Go.Proofs.YtggcpoleklcmkaaGreatDoor
open Go.Sl Go.Ls Go.Tr Go.Dc
attribute [local irreducible] WC WL WX WK WA WAK Val Ctr RunRes ResIs Rd At sl box pt Exit.then Exit.inBlock bodyPost Code.wp wpList
end Go.Proofs.YtggcpoleklcmkaaGreatDoor

namespace Go.Tr
open Go.Sl Go.Ls
namespace Nd
mutual
def gs : Nd → List (Int × Bool)
 | .mk i g ks => (i, g) :: gss ks
def gss : List Nd → List (Int × Bool)
 | [] => []
 | k :: ks => gs k ++ gss ks
end
theorem gss_app : ∀ (a b : List Nd), gss (a ++ b) = gss a ++ gss b
 | [], b => by rw [gss]; rfl
 | x :: a, b => by rw [List.cons_append, gss, gss, gss_app a b, List.append_assoc]
theorem gs_eq (n : Nd) : n.gs = (n.id, n.grp) :: gss n.kids := by cases n; rw [gs]; rfl
theorem order_gs (n : Nd) : n.gs.map Prod.fst = n.order := by
 refine Nd.rec (motive_1 := fun n => n.gs.map Prod.fst = n.order) (motive_2 := fun l => (gss l).map Prod.fst = orders l) ?_ ?_ ?_ n
 ·intro i g ks h
  rw [gs, order, List.map_cons, h]
 ·rw [gss, orders]; rfl
 ·intro k ks h1 h2
  rw [gss, orders, List.map_append, h1, h2]
theorem gcount_with {q : Int} (x : Int × Bool) (ks : List Nd) (n : Nd) : ∀ p, Nd.find q n = some p → n.order.Nodup → (Nd.with_ q ks n).gs.count x + (gss p.kids).count x = n.gs.count x + (gss ks).count x := by
 refine Nd.rec (motive_1 := fun n => ∀ p, Nd.find q n = some p → n.order.Nodup → (Nd.with_ q ks n).gs.count x + (gss p.kids).count x = n.gs.count x + (gss ks).count x) (motive_2 := fun l => ∀ p, finds q l = some p → (orders l).Nodup → (gss (withs q ks l)).count x + (gss p.kids).count x = (gss l).count x + (gss ks).count x) ?_ ?_ ?_ n
 ·intro j g ks0 ih p hp ho
  rw [Nd.find] at hp
  rw [Nd.with_, gs, gs, List.count_cons, List.count_cons]
  rw [order, List.nodup_cons] at ho
  by_cases hj : j = q
  ·rw [if_pos hj] at hp; cases hp
   rw [if_pos hj]
   show _ + (gss ks0).count x = _
   omega
  ·rw [if_neg hj] at hp
   rw [if_neg hj]
   have := ih p hp ho.2
   omega
 ·intro p hp; simp [finds] at hp
 ·intro k l h1 h2 p hp ho
  rw [finds] at hp
  rw [orders, List.nodup_append] at ho
  rw [withs, gss, gss, List.count_append, List.count_append]
  cases hk : Nd.find q k with
  | some y =>
   rw [hk] at hp; cases hp
   have hq : q ∈ k.order := (find_some q k).1 (by rw [hk]; rfl)
   have h3 := h1 _ hk ho.1
   rw [withs_none q _ l fun hl => ho.2.2 q hq q hl rfl]
   omega
  | none =>
   rw [hk] at hp
   have hn : q ∉ k.order := fun hm => by
    have := (find_some q k).2 hm
    rw [hk] at this; cases this
   have h3 := h2 _ hp ho.2.1
   rw [with_none q _ k hn]
   omega
theorem gcount_td (x : Int × Bool) (l : List Nd) (k : Nat) : (gss (l.take k)).count x + (gss (l.drop k)).count x = (gss l).count x := by
 rw [← List.count_append, ← gss_app, List.take_append_drop]
theorem gcount_rem (x : Int × Bool) {l : List Nd} {k : Nat} (hk : k < l.length) : (gss (l.take k ++ l.drop (k + 1))).count x + (l[k]).gs.count x = (gss l).count x := by
 have h1 := gcount_td x l k
 rw [drop_eq hk, gss, List.count_append] at h1
 rw [gss_app, List.count_append]; omega
theorem gcount_add {top n : Nd} {p ix : Int} (ho : top.order.Nodup) (h : (Nd.add top p ix n).2 = 0) (x : Int × Bool) : (Nd.add top p ix n).1.gs.count x = top.gs.count x + n.gs.count x := by
 rw [Nd.add] at h ⊢
 split at h
 ·exact absurd h (by show ¬ (31 : Int) = 0; decide)
 ·rename_i m hm
  split at h
  ·exact absurd h (by show ¬ (33 : Int) = 0; decide)
  ·rename_i hg
   rw [if_neg hg]
   split at h
   ·exact absurd h (by show ¬ (30 : Int) = 0; decide)
   ·rename_i hx
    rw [if_neg hx]
    split at h
    ·rename_i hf
     exact absurd h hf
    ·rename_i hf
     rw [if_neg hf]
     have h1 := gcount_with x (m.kids.take ix.toNat ++ n :: m.kids.drop ix.toNat) top m hm ho
     have h2 := gcount_td x m.kids ix.toNat
     rw [gss_app, gss, List.count_append, List.count_append] at h1
     simp only
     omega
end Nd
section
variable {A : Ar} {top : Nd}
open Nd
theorem Abs.gcount_rem (hA : Abs A top) {i : Int} (h : (Nd.remove top i).2.2.2.2 = 0) (x : Int × Bool) : (Nd.remove top i).1.gs.count x + (Nd.remove top i).2.1.gs.count x = top.gs.count x := by
 rcases hA.rem i with ⟨h0, _⟩ | ⟨p, k, hk, _, _, _, _, hf, e, _⟩
 ·exact absurd h h0
 ·rw [e]
  have h1 := gcount_with x (p.kids.take k ++ p.kids.drop (k + 1)) top p hf hA.od
  have h2 := Nd.gcount_rem x hk
  simp only
  omega
theorem Abs.gcount_move (hA : Abs A top) {i p ix : Int} (h : (Nd.move top i p ix).2 = 0) (x : Int × Bool) : (Nd.move top i p ix).1.gs.count x = top.gs.count x := by
 rw [Nd.move] at h ⊢
 split at h
 ·rename_i h0; exact absurd h h0
 ·rename_i h0
  rw [if_neg h0]
  have h0' := Decidable.of_not_not h0
  have hc := hA.count_rem h0'
  have hcg := hA.gcount_rem h0'
  obtain ⟨o1, o2, _⟩ := hA.rem_nodup h0'
  split at h
  ·exact absurd h (by show ¬ (31 : Int) = 0; decide)
  ·rename_i m hm
   split at h
   ·exact absurd h (by show ¬ (33 : Int) = 0; decide)
   ·rename_i hg
    rw [if_neg hg]
    split at h
    ·exact absurd h (by show ¬ (34 : Int) = 0; decide)
    ·rename_i hcy
     rw [if_neg hcy]
     have hp1 := count_find (i := p) (n := top).1 (by rw [hm]; rfl)
     have hp2 : ¬ 0 < (Nd.remove top i).2.1.order.count p := fun hh => hcy (count_find.2 hh)
     have hp3 := hc p
     obtain ⟨m', hm'⟩ := Option.isSome_iff_exists.1 (count_find.2 (show 0 < (Nd.remove top i).1.order.count p by omega))
     rw [hm'] at h ⊢
     simp only [Option.getD_some] at h ⊢
     split at h
     ·exact absurd h (by show ¬ (30 : Int) = 0; decide)
     ·rename_i hix
      rw [if_neg hix]
      split at h
      ·exact absurd h (by show ¬ (35 : Int) = 0; decide)
      ·rename_i hd
       rw [if_neg hd]
       have h1 := gcount_with x (m'.kids.take ix.toNat ++ (Nd.remove top i).2.1 :: m'.kids.drop ix.toNat) (Nd.remove top i).1 m' hm' o1
       have h2 := gcount_td x m'.kids ix.toNat
       rw [gss_app, gss, List.count_append, List.count_append] at h1
       have := hcg x
       simp only
       omega
theorem Nd.gcount_wrap (ho : top.order.Nodup) {i p ix c : Int} (h : (Nd.wrap top i p ix c).2 = 0) (x : Int × Bool) : (Nd.wrap top i p ix c).1.gs.count x = top.gs.count x + (if (i, true) = x then 1 else 0) := by
 rw [Nd.wrap] at h ⊢
 split at h
 ·exact absurd h (by show ¬ (31 : Int) = 0; decide)
 ·rename_i m hm
  split at h
  ·exact absurd h (by show ¬ (33 : Int) = 0; decide)
  ·rename_i hg
   rw [if_neg hg]
   split at h
   ·exact absurd h (by show ¬ (30 : Int) = 0; decide)
   ·rename_i hx
    rw [if_neg hx]
    split at h
    ·rename_i hf
     exact absurd h hf
    ·rename_i hf
     rw [if_neg hf]
     split at h
     ·exact absurd h (by show ¬ (35 : Int) = 0; decide)
     ·rename_i hd
      rw [if_neg hd]
      have h1 := gcount_with x (m.kids.take ix.toNat ++ (mk i true ((m.kids.drop ix.toNat).take c.toNat) :: m.kids.drop (ix.toNat + c.toNat))) top m hm ho
      have h2 := gcount_td x m.kids ix.toNat
      have h3 := gcount_td x (m.kids.drop ix.toNat) c.toNat
      rw [List.drop_drop] at h3
      rw [gss_app, gss, gs, List.count_append, List.count_append, List.count_cons] at h1
      simp only [beq_iff_eq] at h1
      simp only
      omega
theorem Abs.gcount_unwrap (hA : Abs A top) {i : Int} (h : (Nd.unwrap top i).2.2.2.2 = 0) (x : Int × Bool) : (Nd.unwrap top i).1.gs.count x + (if (i, true) = x then 1 else 0) = top.gs.count x := by
 rw [Nd.unwrap] at h ⊢
 split at h
 ·rename_i h0; exact absurd h h0
 ·rename_i h0
  rw [if_neg h0]
  split at h
  ·exact absurd h (by show ¬ (33 : Int) = 0; decide)
  ·rename_i hg
   rw [if_neg hg]
   rcases hA.rem i with ⟨h1, _⟩ | ⟨p, k, hk, _, hid, _, _, hf, e, _⟩
   ·exact absurd (Decidable.of_not_not h0) h1
   ·have hgt : (p.kids[k]).grp = true := by
     rw [e] at hg
     cases hh : (p.kids[k]).grp with
     | true => rfl
     | false => exact absurd hh hg
    rw [e]
    simp only [hf, Option.getD_some, Int.toNat_natCast]
    have h1 := gcount_with x (p.kids.take k ++ ((p.kids[k]).kids ++ p.kids.drop (k + 1))) top p hf hA.od
    have h2 := Nd.gcount_rem x hk
    have h3 : (p.kids[k]).gs.count x = (gss (p.kids[k]).kids).count x + (if (i, true) = x then 1 else 0) := by
     rw [gs_eq, List.count_cons, hid, hgt]
     simp only [beq_iff_eq]
    rw [gss_app, gss_app, List.count_append, List.count_append] at h1
    rw [gss_app, List.count_append] at h2
    omega
end
end Go.Tr

namespace Go.Dc
open Go.Sl Go.Ls Go.Tr
theorem checked_ok {l : List Sg} (h : (checked l).2 = 0) : pathCheck l = 0 ∧ checked l = (l, 0) := by
 rw [checked] at h ⊢
 split at h
 ·rename_i h1; exact absurd h h1
 ·rename_i h1
  exact ⟨Decidable.of_not_not h1, if_neg h1⟩
theorem checked_of {l : List Sg} (h : pathCheck l = 0) : checked l = (l, 0) := by rw [checked, if_neg (fun e => e h)]
theorem insert_ok {l : List Sg} {i : Int} {s : Sg} (h : (pathInsert l i s).2 = 0) : 0 ≤ i ∧ i ≤ l.length ∧ pathInsert l i s = (l.take i.toNat ++ s :: l.drop i.toNat, 0) ∧ pathCheck (l.take i.toNat ++ s :: l.drop i.toNat) = 0 := by
 rw [pathInsert] at h ⊢
 split at h
 ·rename_i h1; exact absurd h h1
 ·rename_i h1
  rw [if_neg h1]
  split at h
  ·exact absurd h (by show ¬ (30 : Int) = 0; decide)
  ·rename_i h2
   rw [if_neg h2]
   obtain ⟨h3, h4⟩ := checked_ok h
   exact ⟨by omega, by omega, h4, h3⟩
theorem delete_ok {l : List Sg} {i : Int} (h : (pathDelete l i).2 = 0) : atSeg l i = 0 ∧ pathDelete l i = (l.take i.toNat ++ l.drop (i.toNat + 1), 0) ∧ pathCheck (l.take i.toNat ++ l.drop (i.toNat + 1)) = 0 := by
 rw [pathDelete] at h ⊢
 split at h
 ·rename_i h1; exact absurd h h1
 ·rename_i h1
  rw [if_neg h1]
  obtain ⟨h3, h4⟩ := checked_ok h
  exact ⟨Decidable.of_not_not h1, h4, h3⟩
theorem put_ok {l : List Sg} {i k : Int} {p : Pt} (h : (pathPut l i k p).2 = 0) : atSeg l i = 0 ∧ 0 ≤ k ∧ k < need (sgAt l i).kind ∧ pathPut l i k p = (l.set i.toNat ((sgAt l i).setPoint k.toNat p), 0) ∧ pathCheck (l.set i.toNat ((sgAt l i).setPoint k.toNat p)) = 0 := by
 rw [pathPut] at h ⊢
 split at h
 ·rename_i h1; exact absurd h h1
 ·rename_i h1
  rw [if_neg h1]
  split at h
  ·exact absurd h (by show ¬ (30 : Int) = 0; decide)
  ·rename_i h2
   rw [if_neg h2]
   obtain ⟨h3, h4⟩ := checked_ok h
   exact ⟨Decidable.of_not_not h1, by omega, by omega, h4, h3⟩
theorem split_ok {l : List Sg} {i : Int} (h : (pathSplit l i).2 = 0) : atSeg l i = 0 ∧ (sgAt l i).kind ≠ 1 ∧ (sgAt l i).kind ≠ 5 ∧ l.length ≠ 4096 ∧
  (pathSplit l i).1 = l.take i.toNat ++ ((sgAt l i).parts ((sgAt l (i - 1)).point (need (sgAt l (i - 1)).kind - 1))).1 :: ((sgAt l i).parts ((sgAt l (i - 1)).point (need (sgAt l (i - 1)).kind - 1))).2 :: l.drop (i.toNat + 1) := by
 rw [pathSplit] at h ⊢
 split at h
 ·rename_i h1; exact absurd h h1
 ·rename_i h1
  rw [if_neg h1]
  split at h
  ·exact absurd h (by show ¬ (33 : Int) = 0; decide)
  ·rename_i h2
   rw [if_neg h2]
   split at h
   ·exact absurd h (by show ¬ (36 : Int) = 0; decide)
   ·rename_i h3
    rw [if_neg h3]
    exact ⟨Decidable.of_not_not h1, fun e => h2 (.inl e), fun e => h2 (.inr e), h3, rfl⟩
def openAft (o : Bool) : List Sg → Bool
 | [] => o
 | s :: r => openAft (decide (s.kind ≠ 5)) r
theorem pathGo_app : ∀ (a b : List Sg) (o : Bool), pathGo o (a ++ b) = if pathGo o a ≠ 0 then pathGo o a else pathGo (openAft o a) b
 | [], b, o => by simp [pathGo, openAft]
 | s :: a, b, o => by
  rw [List.cons_append, pathGo, pathGo, openAft]
  by_cases h : s.check o ≠ 0
  ·rw [if_pos h, if_pos h, if_pos h]
  ·rw [if_neg h, if_neg h, pathGo_app a b]
theorem pathGo_app0 {a b : List Sg} {o : Bool} : pathGo o (a ++ b) = 0 ↔ pathGo o a = 0 ∧ pathGo (openAft o a) b = 0 := by
 rw [pathGo_app]
 constructor
 ·intro h
  split at h
  ·rename_i h1; exact absurd h h1
  ·rename_i h1; exact ⟨Decidable.of_not_not h1, h⟩
 ·rintro ⟨h1, h2⟩
  rw [if_neg (fun e => e h1), h2]
theorem pathGo_cons0 {s : Sg} {r : List Sg} {o : Bool} : pathGo o (s :: r) = 0 ↔ s.check o = 0 ∧ pathGo (decide (s.kind ≠ 5)) r = 0 := by
 rw [pathGo]
 constructor
 ·intro h
  split at h
  ·rename_i h1; exact absurd h h1
  ·rename_i h1; exact ⟨Decidable.of_not_not h1, h⟩
 ·rintro ⟨h1, h2⟩
  rw [if_neg (fun e => e h1), h2]
theorem pathCheck_iff {l : List Sg} : pathCheck l = 0 ↔ l.length ≤ 4096 ∧ pathGo false l = 0 := by
 rw [pathCheck]
 constructor
 ·intro h
  split at h
  ·exact absurd h (by decide)
  ·exact ⟨by omega, h⟩
 ·rintro ⟨h1, h2⟩
  rw [if_neg (by omega), h2]
theorem seg_check {s : Sg} (hk : s.kind = 2 ∨ s.kind = 3 ∨ s.kind = 4) : s.check true = 0 ↔ (s.kind = 2 → s.p1 = Pt.z) ∧ (s.kind ≠ 4 → s.p2 = Pt.z) ∧ s.p0.inn ∧ (s.kind ≠ 2 → s.p1.inn) ∧ (s.kind = 4 → s.p2.inn) := by
 obtain ⟨k, p0, p1, p2⟩ := s
 simp only at hk
 rw [Sg.check]
 have e1 : ∀ (P : Prop) [Decidable P] (a b : Int), a ≠ 0 → ((if P then a else b) = 0 ↔ ¬ P ∧ b = 0) := fun P _ a b h => by
  constructor
  ·intro e
   split at e
   ·exact absurd e h
   ·rename_i q; exact ⟨q, e⟩
  ·rintro ⟨q, e⟩
   rw [if_neg q, e]
 rw [e1 _ _ _ (by decide), e1 _ _ _ (by decide), e1 _ _ _ (by decide)]
 rcases hk with rfl | rfl | rfl
 all_goals simp [need, not_or]
 all_goals first | done | constructor
 all_goals first | done | (intro h; simp_all) | skip
theorem parts_check {f : Pt} {x : Sg} (hx : x.check true = 0) (hf : f.inn) (hk : x.kind = 2 ∨ x.kind = 3 ∨ x.kind = 4) : (x.parts f).1.check true = 0 ∧ (x.parts f).2.check true = 0 ∧ (x.parts f).1.kind = x.kind ∧ (x.parts f).2.kind = x.kind := by
 have n24 : ¬ (2 : Int) = 4 := by decide
 have n32 : ¬ (3 : Int) = 2 := by decide
 have n34 : ¬ (3 : Int) = 4 := by decide
 have n42 : ¬ (4 : Int) = 2 := by decide
 have n43 : ¬ (4 : Int) = 3 := by decide
 obtain ⟨k, p0, p1, p2⟩ := x
 have h := (seg_check hk).1 hx
 obtain ⟨h1, h2, h3, h4, h5⟩ := h
 simp only at hk h1 h2 h3 h4 h5
 rw [Sg.parts]
 rcases hk with rfl | rfl | rfl
 ·rw [if_pos rfl]
  refine ⟨(seg_check (.inl rfl)).2 ⟨h1, h2, mid_inn hf h3, fun e => absurd rfl e, fun e => absurd e n24⟩, hx, rfl, rfl⟩
 ·have h4 := h4 (by decide)
  rw [if_neg n32, if_pos rfl]
  exact ⟨(seg_check (.inr (.inl rfl))).2 ⟨fun e => absurd e n32, h2, mid_inn hf h3, fun _ => mid_inn (mid_inn hf h3) (mid_inn h3 h4), fun e => absurd e n34⟩,
   (seg_check (.inr (.inl rfl))).2 ⟨fun e => absurd e n32, h2, mid_inn h3 h4, fun _ => h4, fun e => absurd e n34⟩, rfl, rfl⟩
 ·have h4 := h4 (by decide)
  have h5 := h5 rfl
  rw [if_neg n42, if_neg n43]
  exact ⟨(seg_check (.inr (.inr rfl))).2 ⟨fun e => absurd e n42, fun e => absurd rfl e, mid_inn hf h3, fun _ => mid_inn (mid_inn hf h3) (mid_inn h3 h4), fun _ => mid_inn (mid_inn (mid_inn hf h3) (mid_inn h3 h4)) (mid_inn (mid_inn h3 h4) (mid_inn h4 h5))⟩,
   (seg_check (.inr (.inr rfl))).2 ⟨fun e => absurd e n42, fun e => absurd rfl e, mid_inn (mid_inn h3 h4) (mid_inn h4 h5), fun _ => mid_inn h4 h5, fun _ => h5⟩, rfl, rfl⟩
theorem split_right {l : List Sg} {i : Int} (h : (pathSplit l i).2 = 0) : pathCheck (pathSplit l i).1 = 0 := by
 obtain ⟨h1, h2, h3, h4, h5⟩ := split_ok h
 obtain ⟨c0, i0, il, l4⟩ := atSeg_ok h1
 obtain ⟨j, rfl⟩ : ∃ j : Nat, i = j := ⟨i.toNat, by omega⟩
 have hj : j < l.length := by omega
 rw [sgAt_nat hj] at h2 h3 h5
 obtain ⟨j0, f1, f2, f3, _⟩ := split_facts c0 hj h2 h3
 have hjm : ((j : Int) - 1) = ((j - 1 : Nat) : Int) := by omega
 rw [hjm, sgAt_nat (by omega)] at h5
 rw [h5]
 simp only [Int.toNat_natCast]
 obtain ⟨cl, cg⟩ := pathCheck_iff.1 c0
 have hsp : l = l.take j ++ l[j] :: l.drop (j + 1) := by rw [← List.drop_eq_getElem_cons hj, List.take_append_drop]
 rw [hsp] at cg
 obtain ⟨g1, g2⟩ := pathGo_app0.1 cg
 obtain ⟨g3, g4⟩ := pathGo_cons0.1 g2
 have ho := (seg_facts g3).2.2.1 h2
 rw [ho] at g3
 obtain ⟨p1, p2, p3, p4⟩ := parts_check g3 f2 f3
 have hk5 : ∀ {y : Sg}, y.kind = (l[j]).kind → decide (y.kind ≠ 5) = true := fun e => decide_eq_true (by rw [e]; exact h3)
 refine pathCheck_iff.2 ⟨?_, pathGo_app0.2 ⟨g1, pathGo_cons0.2 ⟨by rw [ho]; exact p1, pathGo_cons0.2 ⟨by rw [hk5 p3]; exact p2, ?_⟩⟩⟩⟩
 ·simp only [List.length_append, List.length_cons, List.length_take, List.length_drop]; omega
 ·rw [p4]; exact g4
theorem Atr.check_iff {a : Atr} {g : Bool} : a.check g = 0 ↔ a.mtx.right ∧ a.sty.check = 0 ∧ pathCheck a.path = 0 ∧ (g = true → a.path.length = 0) := by
 constructor
 ·intro h
  obtain ⟨h1, h2, h3⟩ := Atr.check_ok h
  refine ⟨h1, h2, h3, fun e => ?_⟩
  rw [Atr.check, if_neg (fun e => e h1), if_neg (fun e => e h2), if_neg (fun e => e h3)] at h
  split at h
  ·exact absurd h (by decide)
  ·rename_i h4
   rcases Nat.eq_zero_or_pos a.path.length with h5 | h5
   ·exact h5
   ·exact absurd ⟨e, h5⟩ h4
 ·rintro ⟨h1, h2, h3, h4⟩
  rw [Atr.check, if_neg (fun e => e h1), if_neg (fun e => e h2), if_neg (fun e => e h3), if_neg]
  rintro ⟨e, h5⟩
  have := h4 e
  omega
theorem change_right {a : Atr} {c : Cm} {g : Bool} (ha : a.check g = 0) (hg : 8 ≤ c.kind → g = false) (h : (change a c).2.2 = 0) (h6 : 6 ≤ c.kind) : (change a c).1.check g = 0 := by
 obtain ⟨h1, h2, h3, h4⟩ := Atr.check_iff.1 ha
 rw [change] at h ⊢
 by_cases k : c.kind = 6
 ·rw [if_pos k] at h ⊢
  have hm : c.atr.mtx.right := by
   simp only at h
   split at h
   ·assumption
   ·exact absurd h (by decide)
  exact Atr.check_iff.2 ⟨hm, h2, h3, h4⟩
 rw [if_neg k] at h ⊢
 by_cases k : c.kind = 7
 ·rw [if_pos k] at h ⊢
  exact Atr.check_iff.2 ⟨h1, h, h3, h4⟩
 rw [if_neg k] at h ⊢
 have hg := hg (by omega)
 subst hg
 by_cases k : c.kind = 8
 ·rw [if_pos k] at h ⊢
  exact Atr.check_iff.2 ⟨h1, h2, h, fun e => by cases e⟩
 rw [if_neg k] at h ⊢
 by_cases k : c.kind = 9
 ·rw [if_pos k] at h ⊢
  obtain ⟨_, _, e, hp⟩ := insert_ok h
  refine Atr.check_iff.2 ⟨h1, h2, ?_, fun e => by cases e⟩
  show pathCheck (pathInsert a.path c.i c.seg).1 = 0
  rw [e]; exact hp
 rw [if_neg k] at h ⊢
 by_cases k : c.kind = 10
 ·rw [if_pos k] at h ⊢
  obtain ⟨_, e, hp⟩ := delete_ok h
  refine Atr.check_iff.2 ⟨h1, h2, ?_, fun e => by cases e⟩
  show pathCheck (pathDelete a.path c.i).1 = 0
  rw [e]; exact hp
 rw [if_neg k] at h ⊢
 by_cases k : c.kind = 11
 ·rw [if_pos k] at h ⊢
  obtain ⟨_, _, _, e, hp⟩ := put_ok h
  refine Atr.check_iff.2 ⟨h1, h2, ?_, fun e => by cases e⟩
  show pathCheck (pathPut a.path c.i c.k c.point).1 = 0
  rw [e]; exact hp
 rw [if_neg k] at h ⊢
 exact Atr.check_iff.2 ⟨h1, h2, split_right h, fun e => by cases e⟩
theorem setPoint_kind (s : Sg) (k : Nat) (p : Pt) : (s.setPoint k p).kind = s.kind := by
 rw [Sg.setPoint]
 split
 ·rfl
 ·split <;> rfl
theorem setPoint_back (s : Sg) (k : Nat) (p : Pt) : (s.setPoint k p).setPoint k (s.point k) = s := by
 rw [Sg.setPoint, Sg.setPoint, Sg.point]
 by_cases h0 : k = 0
 ·rw [if_pos h0, if_pos h0, if_pos h0]
 ·rw [if_neg h0, if_neg h0, if_neg h0]
  by_cases h1 : k = 1
  ·rw [if_pos h1, if_pos h1, if_pos h1]
  ·rw [if_neg h1, if_neg h1, if_neg h1]
theorem sgAt_set {l : List Sg} {j : Nat} (h : j < l.length) (x : Sg) : sgAt (l.set j x) j = x := by
 rw [sgAt_nat (by rw [List.length_set]; exact h)]
 simp
theorem change_back {a : Atr} {c : Cm} {g : Bool} (ha : a.check g = 0) (h6 : 6 ≤ c.kind) (h12 : c.kind ≤ 12) (h : (change a c).2.2 = 0) (i : Int) :
  (change (change a c).1 { (change a c).2.1 with id := i }).1 = a ∧ (change (change a c).1 { (change a c).2.1 with id := i }).2.2 = 0 ∧ 6 ≤ (change a c).2.1.kind ∧ (change a c).2.1.kind ≤ 12 ∧ (8 ≤ (change a c).2.1.kind → 8 ≤ c.kind) := by
 obtain ⟨h1, h2, h3, h4⟩ := Atr.check_iff.1 ha
 have hc : ∀ {q : Atr × Cm × Int}, change a c = q → (change q.1 { q.2.1 with id := i }).1 = a ∧ (change q.1 { q.2.1 with id := i }).2.2 = 0 ∧ 6 ≤ q.2.1.kind ∧ q.2.1.kind ≤ 12 ∧ (8 ≤ q.2.1.kind → 8 ≤ c.kind) → (change (change a c).1 { (change a c).2.1 with id := i }).1 = a ∧ (change (change a c).1 { (change a c).2.1 with id := i }).2.2 = 0 ∧ 6 ≤ (change a c).2.1.kind ∧ (change a c).2.1.kind ≤ 12 ∧ (8 ≤ (change a c).2.1.kind → 8 ≤ c.kind) := by
  rintro q rfl h
  exact h
 by_cases k6 : c.kind = 6
 ·refine hc (by rw [change, if_pos k6]) ?_
  refine ⟨?_, ?_, (show (6 : Int) ≤ 6 by decide), (show (6 : Int) ≤ 12 by decide), fun h => absurd h (by show ¬ (8 : Int) ≤ 6; decide)⟩
  ·rw [change, if_pos rfl]
  ·rw [change, if_pos rfl]
   show (if a.mtx.right then (0 : Int) else 10) = 0
   rw [if_pos h1]
 by_cases k7 : c.kind = 7
 ·refine hc (by rw [change, if_neg k6, if_pos k7]) ?_
  refine ⟨?_, ?_, (show (6 : Int) ≤ 7 by decide), (show (7 : Int) ≤ 12 by decide), fun h => absurd h (by show ¬ (8 : Int) ≤ 7; decide)⟩
  ·rw [change, if_neg (by show ¬ (7 : Int) = 6; decide), if_pos rfl]
  ·rw [change, if_neg (by show ¬ (7 : Int) = 6; decide), if_pos rfl]; exact h2
 by_cases k8 : c.kind = 8
 ·refine hc (by rw [change, if_neg k6, if_neg k7, if_pos k8]) ?_
  refine ⟨?_, ?_, (show (6 : Int) ≤ 8 by decide), (show (8 : Int) ≤ 12 by decide), fun h => by omega⟩
  ·rw [change, if_neg (by show ¬ (8 : Int) = 6; decide), if_neg (by show ¬ (8 : Int) = 7; decide), if_pos rfl]
  ·rw [change, if_neg (by show ¬ (8 : Int) = 6; decide), if_neg (by show ¬ (8 : Int) = 7; decide), if_pos rfl]; exact h3
 by_cases k9 : c.kind = 9
 ·have hq : change a c = ({ a with path := (pathInsert a.path c.i c.seg).1 }, { Cm.z with kind := 10, i := c.i }, (pathInsert a.path c.i c.seg).2) := by rw [change, if_neg k6, if_neg k7, if_neg k8, if_pos k9]
  have hh := h
  rw [hq] at hh
  obtain ⟨i0, il, e, hp⟩ := insert_ok hh
  refine hc hq ?_
  rw [e]
  obtain ⟨j, hj⟩ : ∃ j : Nat, c.i = j := ⟨c.i.toNat, by omega⟩
  have hjl : j ≤ a.path.length := by omega
  rw [hj, Int.toNat_natCast] at hp
  have ht : (a.path.take j ++ c.seg :: a.path.drop j).take j ++ (a.path.take j ++ c.seg :: a.path.drop j).drop (j + 1) = a.path := by
   rw [ins_take _ hjl, ins_drop _ 1 hjl, List.drop_one, List.tail_cons, List.take_append_drop]
  have hlen : (a.path.take j ++ c.seg :: a.path.drop j).length = a.path.length + 1 := by
   simp only [List.length_append, List.length_cons, List.length_take, List.length_drop]; omega
  have hd : pathDelete (a.path.take j ++ c.seg :: a.path.drop j) j = (a.path, 0) := by
   rw [pathDelete, if_neg, Int.toNat_natCast, ht, checked_of h3]
   intro hne
   refine hne ?_
   rw [atSeg, if_neg (fun e => e hp), if_neg (by rw [hlen]; omega)]
  refine ⟨?_, ?_, (show (6 : Int) ≤ 10 by decide), (show (10 : Int) ≤ 12 by decide), fun h => by omega⟩
  ·rw [change, if_neg (by show ¬ (10 : Int) = 6; decide), if_neg (by show ¬ (10 : Int) = 7; decide), if_neg (by show ¬ (10 : Int) = 8; decide), if_neg (by show ¬ (10 : Int) = 9; decide), if_pos rfl]
   simp only [hj, Int.toNat_natCast, hd]
  ·rw [change, if_neg (by show ¬ (10 : Int) = 6; decide), if_neg (by show ¬ (10 : Int) = 7; decide), if_neg (by show ¬ (10 : Int) = 8; decide), if_neg (by show ¬ (10 : Int) = 9; decide), if_pos rfl]
   simp only [hj, Int.toNat_natCast, hd]
 by_cases k10 : c.kind = 10
 ·have hq : change a c = ({ a with path := (pathDelete a.path c.i).1 }, { Cm.z with kind := 9, i := c.i, seg := if (pathDelete a.path c.i).2 = 0 then sgAt a.path c.i else Sg.z }, (pathDelete a.path c.i).2) := by rw [change, if_neg k6, if_neg k7, if_neg k8, if_neg k9, if_pos k10]
  have hh := h
  rw [hq] at hh
  obtain ⟨ha0, e, hp⟩ := delete_ok hh
  obtain ⟨_, i0, il, _⟩ := atSeg_ok ha0
  refine hc hq ?_
  rw [e]
  obtain ⟨j, hj⟩ : ∃ j : Nat, c.i = j := ⟨c.i.toNat, by omega⟩
  have hjl : j < a.path.length := by omega
  rw [hj, Int.toNat_natCast] at hp
  have hlen : (a.path.take j ++ a.path.drop (j + 1)).length = a.path.length - 1 := by
   simp only [List.length_append, List.length_cons, List.length_take, List.length_drop]; omega
  have ht : (a.path.take j ++ a.path.drop (j + 1)).take j ++ sgAt a.path j :: (a.path.take j ++ a.path.drop (j + 1)).drop j = a.path := by
   have h1 := ins_take (l := a.path) (k := j) (a.path.drop (j + 1)) (by omega)
   have h2 := ins_drop (l := a.path) (k := j) (a.path.drop (j + 1)) 0 (by omega)
   rw [Nat.add_zero] at h2
   rw [h1, h2, sgAt_nat hjl, List.drop_zero, ← List.drop_eq_getElem_cons hjl, List.take_append_drop]
  have hd : pathInsert (a.path.take j ++ a.path.drop (j + 1)) j (sgAt a.path j) = (a.path, 0) := by
   rw [pathInsert, if_neg (fun e => e hp), if_neg (by rw [hlen]; omega), Int.toNat_natCast, ht, checked_of h3]
  refine ⟨?_, ?_, (show (6 : Int) ≤ 9 by decide), (show (9 : Int) ≤ 12 by decide), fun h => by omega⟩
  ·rw [change, if_neg (by show ¬ (9 : Int) = 6; decide), if_neg (by show ¬ (9 : Int) = 7; decide), if_neg (by show ¬ (9 : Int) = 8; decide), if_pos rfl]
   simp only [hj, Int.toNat_natCast, if_pos, hd]
  ·rw [change, if_neg (by show ¬ (9 : Int) = 6; decide), if_neg (by show ¬ (9 : Int) = 7; decide), if_neg (by show ¬ (9 : Int) = 8; decide), if_pos rfl]
   simp only [hj, Int.toNat_natCast, if_pos, hd]
 by_cases k11 : c.kind = 11
 ·have hq : change a c = ({ a with path := (pathPut a.path c.i c.k c.point).1 }, { Cm.z with kind := 11, i := c.i, k := c.k, point := if (pathPut a.path c.i c.k c.point).2 = 0 then (sgAt a.path c.i).point c.k.toNat else Pt.z }, (pathPut a.path c.i c.k c.point).2) := by rw [change, if_neg k6, if_neg k7, if_neg k8, if_neg k9, if_neg k10, if_pos k11]
  have hh := h
  rw [hq] at hh
  obtain ⟨ha0, k0, kn, e, hp⟩ := put_ok hh
  obtain ⟨_, i0, il, _⟩ := atSeg_ok ha0
  refine hc hq ?_
  rw [e]
  obtain ⟨j, hj⟩ : ∃ j : Nat, c.i = j := ⟨c.i.toNat, by omega⟩
  have hjl : j < a.path.length := by omega
  rw [hj, Int.toNat_natCast] at hp
  rw [hj] at kn
  have hd : pathPut (a.path.set j ((sgAt a.path j).setPoint c.k.toNat c.point)) j c.k ((sgAt a.path j).point c.k.toNat) = (a.path, 0) := by
   rw [pathPut, if_neg, sgAt_set hjl, setPoint_kind, if_neg (by omega), Int.toNat_natCast, setPoint_back, List.set_set, sgAt_nat hjl, List.set_getElem_self, checked_of h3]
   intro hne
   refine hne ?_
   rw [atSeg, if_neg (fun e => e hp), if_neg (by rw [List.length_set]; omega)]
  refine ⟨?_, ?_, (show (6 : Int) ≤ 11 by decide), (show (11 : Int) ≤ 12 by decide), fun h => by omega⟩
  ·rw [change, if_neg (by show ¬ (11 : Int) = 6; decide), if_neg (by show ¬ (11 : Int) = 7; decide), if_neg (by show ¬ (11 : Int) = 8; decide), if_neg (by show ¬ (11 : Int) = 9; decide), if_neg (by show ¬ (11 : Int) = 10; decide), if_pos rfl]
   simp only [hj, Int.toNat_natCast, if_pos, hd]
  ·rw [change, if_neg (by show ¬ (11 : Int) = 6; decide), if_neg (by show ¬ (11 : Int) = 7; decide), if_neg (by show ¬ (11 : Int) = 8; decide), if_neg (by show ¬ (11 : Int) = 9; decide), if_neg (by show ¬ (11 : Int) = 10; decide), if_pos rfl]
   simp only [hj, Int.toNat_natCast, if_pos, hd]
 ·have hq : change a c = ({ a with path := (pathSplit a.path c.i).1 }, { Cm.z with kind := 8, atr := { Atr.z with path := a.path } }, (pathSplit a.path c.i).2) := by rw [change, if_neg k6, if_neg k7, if_neg k8, if_neg k9, if_neg k10, if_neg k11]
  refine hc hq ?_
  refine ⟨?_, ?_, (show (6 : Int) ≤ 8 by decide), (show (8 : Int) ≤ 12 by decide), fun h => by omega⟩
  ·rw [change, if_neg (by show ¬ (8 : Int) = 6; decide), if_neg (by show ¬ (8 : Int) = 7; decide), if_pos rfl]
  ·rw [change, if_neg (by show ¬ (8 : Int) = 6; decide), if_neg (by show ¬ (8 : Int) = 7; decide), if_pos rfl]; exact h3
end Go.Dc

namespace Go.Dc
open Go.Sl Go.Ls Go.Tr
end Go.Dc
namespace Go.Proofs.YtggcpoleklcmkaaGreatDoor
open Go.Sl Go.Ls Go.Tr Go.Dc
end Go.Proofs.YtggcpoleklcmkaaGreatDoor

namespace Go.Dc
open Go.Sl Go.Ls Go.Tr
end Go.Dc
namespace Go.Proofs.YtggcpoleklcmkaaGreatDoor
open Go.Sl Go.Ls Go.Tr Go.Dc
end Go.Proofs.YtggcpoleklcmkaaGreatDoor
